/- Parts of the proof, merged. -/
import Derived.Test.YtjjjchmkonnpfaaBkq2
import Derived.Shelf.SlSortCmp.InsertionK
import Derived.WalkKit
import Derived.Deep.Fields
import Derived.Test.YtjjjchmkonnpfaaRkShelf
import Derived.Shelf.SlSortCmp.WholeK
import Derived.Shelf.SlSortCmp.NoneTotal
import Derived.Test.YtjjjchmkonnpfaaEngFam
noncomputable section
set_option linter.unusedVariables false
set_option linter.unusedSimpArgs false
set_option maxRecDepth 100000
set_option linter.unusedSectionVars false
namespace Go.Proofs.Ytjjjchmkonnpfaa.Rk
open Go Go.RowKit Eng Kit
open Int renaming ofNat -> o'
open Go.Value renaming int -> vi'
open Go.Value renaming bool -> vb'
open AO renaming cells -> ce'
open AV renaming v -> v'
open AV renaming ptr -> pt'
open Go.IntKind renaming i64 -> I'
open Cnd renaming holds -> ch'
open List renaming mem_cons_self -> ms'
variable {i n j : Nat} {v : AV} {o : AO} {A vs : List AV} {f : FuncId}
noncomputable section
def ownC (i : Nat) (k : Md -> AP AV) : AP AV := .read i fun o => match o with
 | .own m _ => k m
 | _ => .fail "own"
def JV' (s : Ps) (A args : List AV) (i : Nat) (v : AV) (o : AO) : AP AV := useC (fun _ => i) A args [(0, pO s)] (.leaf .ret [v] [(0, o)])
def f0' : List AV -> Option (AP AV) := fun args => match args with
  | [.ptr i 0, .v (.int .i64 a), .v (.int .i64 b)] => some (ownC i fun m => match m with
   | .pile s => .need (0 <= a /\ a.toNat < s.xs.length /\ 0 <= b /\ b.toNat < s.xs.length) (JV' s [.ptr 0 0, iv a, iv b] args i (.v (.bool (ahead (at' s a.toNat) (at' s b.toNat)))) (pO s))
   | _ => .fail "pile")
  | _ => none
def eV' : List AV -> Option (AP AV) := fun args => match args with
  | [.ptr i 0, .v (.int .i64 a), .v (.int .i64 b)] => some (ownC i fun m => match m with
   | .pile s => .need (0 <= a /\ a.toNat < s.xs.length /\ 0 <= b /\ b.toNat < s.xs.length /\ MI s.m s.ck) (JV' s [.ptr 0 0, iv a, iv b] args i (.tuple []) (pO (AL' s a.toNat b.toNat)))
   | _ => .fail "pile")
  | _ => none
def cLen : List AV -> Option (AP AV) := fun args => match args with
  | [.ptr i 0] => some (ownC i fun m => match m with
   | .pile s => JV' s [.ptr 0 0] args i (iv (o' s.xs.length)) (pO s)
   | .pile0 => useC (fun _ => i) [.ptr 0 0] args [(0, pO0)] (.leaf .ret [iv (o' 0)] [(0, pO0)])
   | _ => .fail "pile")
  | _ => none
def eY' : List AV -> Option (AP AV) := fun args => match args with
  | [.ptr i 0, .iface t (.agg [.v (.int .i64 a), .v (.int .i64 b), .v (.int .i64 c)])] => some (.need (t = 71) (ownC i fun m => match m with
   | .pile s => .need (Room s) (JV' s [.ptr 0 0, .iface 71 (itA ⟨a, b, c⟩)] args i (.tuple []) (pO (BA' s ⟨a, b, c⟩)))
   | .pile0 => useC (fun _ => i) [.ptr 0 0, .iface 71 (itA ⟨a, b, c⟩)] args [(0, pO0)] (.leaf .ret [.tuple []] [(0, pO (BA' ⟨[], [], [], 0⟩ ⟨a, b, c⟩))])
   | _ => .fail "pile"))
  | _ => none
def cPop : List AV -> Option (AP AV) := fun args => match args with
  | [.ptr i 0] => some (ownC i fun m => match m with
   | .pile s => .need (0 < s.xs.length /\ s.xs.length <= 9223372036854775807) (JV' s [.ptr 0 0] args i (.iface 71 (itA (at' s (s.xs.length - 1)))) (pO (popS s)))
   | _ => .fail "pile")
  | _ => none
def conP : List (FuncId × (List AV -> Option (AP AV))) := [(WB', f0'), (LL', eV'), (fLen, cLen), (CI', eY'), (fPop, cPop)]
def MP' : Code -> Option Code
 | .loop b => some b
 | .seq a b => match MP' a with | some c => some c | none => MP' b
 | .cond _ a b => match MP' a with | some c => some c | none => MP' b
 | .block _ b | .scope b => MP' b
 | _ => none
def DG' (f : FuncId) : Code := ((Θ.funcs[f]?).bind fun fn => fn.body.bind MP').getD .skip
abbrev fUp : Nat := 68
abbrev EG' : Nat := 62
def lRun (con : List (FuncId × (List AV -> Option (AP AV)))) (hints : AO') (lc : List (FuncId × Nat × Code × (List AV -> AP (AX × List AV)))) (g : FuncId) (b : Code) (A : List AV) (H : LH) (ks : List Nat) (F : HP) : VT (AX × List AV) := ((CF' Θ (env0 con hints lc F) 1000 g b A).run2 (AD' H) 1100 []).view ks
def hI : AV := .iface 96 (.ptr 0 0)
def upA (j : Nat) : List AV := hI :: iv (o' j) :: anys 21
def hUp (j : Nat) : AO' := AN' [(fUp, 0, 2, hv (iv (o' ((j - 1) / 2))))]
abbrev k41' (q0 : Nat) : Cnd := (f' (Wk (z' (IntKind.i64.wrap ((IntKind.i64.wrap (o' q0 - o' 1)).tdiv (o' 2)))) (i' ((q0 - 1) / 2))))
abbrev k42' (q0 : Nat) (q1 : Ps) : Cnd := ((p' (o' 0 <= o' q0 /\ q0 < q1.xs.length /\ o' 0 <= o' ((q0 - 1) / 2) /\ (o' ((q0 - 1) / 2)).toNat < q1.xs.length)).a ((vw' [pt' 0 0,i' q0,i' ((q0 - 1) / 2)]).a (f' (OW (AO.own (Md.pile q1) (pH q1)) (AO.own (Md.pile q1) (pH q1))))))
theorem oUp_eq (s : Ps) (j : Nat) (F : HP) : lRun conP (hUp j) [] fUp (DG' fUp) (upA j) [(0, pO s)] [0] F = VT.ite (o' ((j - 1) / 2) == o' j) (VT.leaf (AX.exit 0,[AV.iface 96 (pt' 0 0),i' j,a',a',i' ((j - 1) / 2),i' j,z' (IntKind.i64.wrap (o' j - o' 1)),i' ((j - 1) / 2),i' ((j - 1) / 2),i' j,b' (o' ((j - 1) / 2) == o' j),j',u',u',u',u',u',j',a',a',a',a',a']) [some (AO.own (Md.pile s) (pH s))] 1100 ((k41' j).a k1')) (VT.ite (!ahead (at' s j) (at' s (o' ((j - 1) / 2)).toNat)) (VT.leaf (AX.exit 0,[AV.iface 96 (pt' 0 0),i' j,a',a',i' ((j - 1) / 2),i' j,z' (IntKind.i64.wrap (o' j - o' 1)),i' ((j - 1) / 2),i' ((j - 1) / 2),i' j,b' (o' ((j - 1) / 2) == o' j),g',AV.iface 96 (pt' 0 0),i' j,i' ((j - 1) / 2),b' (ahead (at' s j) (at' s (o' ((j - 1) / 2)).toNat)),v' (vb' !ahead (at' s j) (at' s (o' ((j - 1) / 2)).toNat)),j',a',a',a',a',a']) [some (AO.own (Md.pile s) (pH s))] 1100 ((k41' j).a ((k42' j s).a k1'))) (VT.leaf (AX.normal,[AV.iface 96 (pt' 0 0),i' ((j - 1) / 2),a',a',i' ((j - 1) / 2),i' j,z' (IntKind.i64.wrap (o' j - o' 1)),i' ((j - 1) / 2),i' ((j - 1) / 2),i' j,b' (o' ((j - 1) / 2) == o' j),g',AV.iface 96 (pt' 0 0),i' j,i' ((j - 1) / 2),b' (ahead (at' s j) (at' s (o' ((j - 1) / 2)).toNat)),v' (vb' !ahead (at' s j) (at' s (o' ((j - 1) / 2)).toNat)),g',AV.iface 96 (pt' 0 0),i' ((j - 1) / 2),i' j,AV.tuple [],i' ((j - 1) / 2)]) [some (AO.own (Md.pile (AL' s (o' ((j - 1) / 2)).toNat j)) (pH (AL' s (o' ((j - 1) / 2)).toNat j)))] 1100 ((k41' j).a ((k42' j s).a (((p' (o' 0 <= o' ((j - 1) / 2) /\ (o' ((j - 1) / 2)).toNat < s.xs.length /\ o' 0 <= o' j /\ j < s.xs.length /\ MI s.m s.ck)).a ((vw' [pt' 0 0,i' ((j - 1) / 2),i' j]).a (f' (OW (AO.own (Md.pile s) (pH s)) (AO.own (Md.pile s) (pH s)))))).a k1'))))) := χ
def upS (s : Ps) (j : Nat) : Ps := if h : j = 0 then s else if ahead (at' s j) (at' s ((j - 1) / 2)) = true then upS (AL' s ((j - 1) / 2) j) ((j - 1) / 2) else s
 termination_by j
 decreasing_by omega
def G9' (i0 n i : Nat) : List AV := hI :: iv (o' i0) :: iv (o' n) :: .any :: .any :: .any :: .any :: iv (o' i) :: anys 40
def eG' (i : Nat) : AO' := AN' [(EG', 2, 2, hv (iv (o' (2 * i + 1)))), (EG', 5, 1, hv (iv (o' (2 * i + 2))))]
abbrev k43' (q0 : Nat) : Cnd := (f' (Wk (z' (IntKind.i64.wrap (IntKind.i64.wrap (o' 2 * o' q0) + o' 1))) (i' (2 * q0 + 1))))
abbrev k44' (q0 : Nat) (q1 : Ps) : Cnd := ((p' (o' 0 <= o' (2 * q0 + 2) /\ (o' (2 * q0 + 2)).toNat < q1.xs.length /\ o' 0 <= o' q0 /\ q0 < q1.xs.length)).a ((vw' [pt' 0 0,i' (2 * q0 + 2),i' q0]).a (f' (OW (AO.own (Md.pile q1) (pH q1)) (AO.own (Md.pile q1) (pH q1))))))
abbrev h45' (q0 : Nat) (q1 : Ps) (z : Cnd) : Cnd := ((f' (Wk (z' (IntKind.i64.wrap (IntKind.i64.wrap (o' 2 * o' q0) + o' 1))) (i' (2 * q0 + 1)))).a ((f' (Wk (z' (IntKind.i64.wrap (o' (2 * q0 + 1) + o' 1))) (i' (2 * q0 + 2)))).a (((p' (o' 0 <= o' (2 * q0 + 2) /\ (o' (2 * q0 + 2)).toNat < q1.xs.length /\ o' 0 <= o' (2 * q0 + 1) /\ (o' (2 * q0 + 1)).toNat < q1.xs.length)).a ((vw' [pt' 0 0,i' (2 * q0 + 2),i' (2 * q0 + 1)]).a (f' (OW (AO.own (Md.pile q1) (pH q1)) (AO.own (Md.pile q1) (pH q1)))))).a z)))
abbrev k46' (q0 : Nat) (q1 : Ps) : Cnd := ((p' (o' 0 <= o' (2 * q0 + 1) /\ (o' (2 * q0 + 1)).toNat < q1.xs.length /\ o' 0 <= o' q0 /\ q0 < q1.xs.length)).a ((vw' [pt' 0 0,i' (2 * q0 + 1),i' q0]).a (f' (OW (AO.own (Md.pile q1) (pH q1)) (AO.own (Md.pile q1) (pH q1))))))
abbrev k47' (q0 : Nat) (q1 : Ps) : Cnd := ((p' (o' 0 <= o' q0 /\ q0 < q1.xs.length /\ o' 0 <= o' (2 * q0 + 1) /\ (o' (2 * q0 + 1)).toNat < q1.xs.length /\ MI q1.m q1.ck)).a ((vw' [pt' 0 0,i' q0,i' (2 * q0 + 1)]).a (f' (OW (AO.own (Md.pile q1) (pH q1)) (AO.own (Md.pile q1) (pH q1))))))
abbrev h48' (q0 : Nat) (z : Cnd) : Cnd := ((f' (Wk (z' (IntKind.i64.wrap (IntKind.i64.wrap (o' 2 * o' q0) + o' 1))) (i' (2 * q0 + 1)))).a ((f' (Wk (z' (IntKind.i64.wrap (o' (2 * q0 + 1) + o' 1))) (i' (2 * q0 + 2)))).a z))
theorem YS' (s : Ps) (i0 n i : Nat) (F : HP) : lRun conP (eG' i) [] EG' (DG' EG') (G9' i0 n i) [(0, pO s)] [0] F = VT.ite (decide (o' (2 * i + 1) >= o' n)) (VT.leaf (AX.exit 0,[AV.iface 96 (pt' 0 0),i' i0,i' n,a',a',a',a',i' i,i' (2 * i + 1),a',a',a',i' i,z' (IntKind.i64.wrap (o' 2 * o' i)),i' (2 * i + 1),i' (2 * i + 1),i' n,b' (decide (o' (2 * i + 1) >= o' n)),j',u',u',j',a',a',a',a',a',a',a',a',a',a',a',a',a',a',a',a',a',a',a',a',a',a',a',a',a',a']) [some (AO.own (Md.pile s) (pH s))] 1100 ((k43' i).a k1')) (VT.ite false (VT.leaf (AX.exit 0,[AV.iface 96 (pt' 0 0),i' i0,i' n,a',a',a',a',i' i,i' (2 * i + 1),a',a',a',i' i,z' (IntKind.i64.wrap (o' 2 * o' i)),i' (2 * i + 1),i' (2 * i + 1),i' n,b' (decide (o' (2 * i + 1) >= o' n)),g',i' (2 * i + 1),b' false,j',a',a',a',a',a',a',a',a',a',a',a',a',a',a',a',a',a',a',a',a',a',a',a',a',a',a']) [some (AO.own (Md.pile s) (pH s))] 1100 ((k43' i).a k1')) (VT.ite (decide (o' (2 * i + 2) < o' n)) (VT.ite (ahead (at' s (o' (2 * i + 2)).toNat) (at' s (o' (2 * i + 1)).toNat)) (VT.ite (!ahead (at' s (o' (2 * i + 2)).toNat) (at' s i)) (VT.leaf (AX.exit 0,[AV.iface 96 (pt' 0 0),i' i0,i' n,a',a',a',a',i' i,i' (2 * i + 1),i' (2 * i + 2),i' (2 * i + 2),a',i' i,z' (IntKind.i64.wrap (o' 2 * o' i)),i' (2 * i + 1),i' (2 * i + 1),i' n,b' (decide (o' (2 * i + 1) >= o' n)),g',i' (2 * i + 1),b' false,g',i' (2 * i + 1),i' (2 * i + 1),i' (2 * i + 2),i' (2 * i + 2),i' n,b' (decide (o' (2 * i + 2) < o' n)),j',AV.iface 96 (pt' 0 0),i' (2 * i + 2),i' (2 * i + 1),b' (ahead (at' s (o' (2 * i + 2)).toNat) (at' s (o' (2 * i + 1)).toNat)),j',i' (2 * i + 2),AV.iface 96 (pt' 0 0),i' (2 * i + 2),i' i,b' (ahead (at' s (o' (2 * i + 2)).toNat) (at' s i)),j',a',a',a',a',a',a',a',a']) [some (AO.own (Md.pile s) (pH s))] 1100 (h45' i s ((k44' i s).a k1'))) (VT.leaf (AX.normal,[AV.iface 96 (pt' 0 0),i' i0,i' n,a',a',a',a',i' (2 * i + 2),i' (2 * i + 1),i' (2 * i + 2),i' (2 * i + 2),a',i' i,z' (IntKind.i64.wrap (o' 2 * o' i)),i' (2 * i + 1),i' (2 * i + 1),i' n,b' (decide (o' (2 * i + 1) >= o' n)),g',i' (2 * i + 1),b' false,g',i' (2 * i + 1),i' (2 * i + 1),i' (2 * i + 2),i' (2 * i + 2),i' n,b' (decide (o' (2 * i + 2) < o' n)),j',AV.iface 96 (pt' 0 0),i' (2 * i + 2),i' (2 * i + 1),b' (ahead (at' s (o' (2 * i + 2)).toNat) (at' s (o' (2 * i + 1)).toNat)),j',i' (2 * i + 2),AV.iface 96 (pt' 0 0),i' (2 * i + 2),i' i,b' (ahead (at' s (o' (2 * i + 2)).toNat) (at' s i)),g',AV.iface 96 (pt' 0 0),i' i,i' (2 * i + 2),AV.tuple [],i' (2 * i + 2),a',a',a']) [some (AO.own (Md.pile (AL' s i (o' (2 * i + 2)).toNat)) (pH (AL' s i (o' (2 * i + 2)).toNat)))] 1100 (h45' i s ((k44' i s).a (((p' (o' 0 <= o' i /\ i < s.xs.length /\ o' 0 <= o' (2 * i + 2) /\ (o' (2 * i + 2)).toNat < s.xs.length /\ MI s.m s.ck)).a ((vw' [pt' 0 0,i' i,i' (2 * i + 2)]).a (f' (OW (AO.own (Md.pile s) (pH s)) (AO.own (Md.pile s) (pH s)))))).a k1'))))) (VT.ite (!ahead (at' s (o' (2 * i + 1)).toNat) (at' s i)) (VT.leaf (AX.exit 0,[AV.iface 96 (pt' 0 0),i' i0,i' n,a',a',a',a',i' i,i' (2 * i + 1),i' (2 * i + 1),i' (2 * i + 2),a',i' i,z' (IntKind.i64.wrap (o' 2 * o' i)),i' (2 * i + 1),i' (2 * i + 1),i' n,b' (decide (o' (2 * i + 1) >= o' n)),g',i' (2 * i + 1),b' false,g',i' (2 * i + 1),i' (2 * i + 1),i' (2 * i + 2),i' (2 * i + 2),i' n,b' (decide (o' (2 * i + 2) < o' n)),j',AV.iface 96 (pt' 0 0),i' (2 * i + 2),i' (2 * i + 1),b' (ahead (at' s (o' (2 * i + 2)).toNat) (at' s (o' (2 * i + 1)).toNat)),g',a',AV.iface 96 (pt' 0 0),i' (2 * i + 1),i' i,b' (ahead (at' s (o' (2 * i + 1)).toNat) (at' s i)),j',a',a',a',a',a',a',a',a']) [some (AO.own (Md.pile s) (pH s))] 1100 (h45' i s ((k46' i s).a k1'))) (VT.leaf (AX.normal,[AV.iface 96 (pt' 0 0),i' i0,i' n,a',a',a',a',i' (2 * i + 1),i' (2 * i + 1),i' (2 * i + 1),i' (2 * i + 2),a',i' i,z' (IntKind.i64.wrap (o' 2 * o' i)),i' (2 * i + 1),i' (2 * i + 1),i' n,b' (decide (o' (2 * i + 1) >= o' n)),g',i' (2 * i + 1),b' false,g',i' (2 * i + 1),i' (2 * i + 1),i' (2 * i + 2),i' (2 * i + 2),i' n,b' (decide (o' (2 * i + 2) < o' n)),j',AV.iface 96 (pt' 0 0),i' (2 * i + 2),i' (2 * i + 1),b' (ahead (at' s (o' (2 * i + 2)).toNat) (at' s (o' (2 * i + 1)).toNat)),g',a',AV.iface 96 (pt' 0 0),i' (2 * i + 1),i' i,b' (ahead (at' s (o' (2 * i + 1)).toNat) (at' s i)),g',AV.iface 96 (pt' 0 0),i' i,i' (2 * i + 1),AV.tuple [],i' (2 * i + 1),a',a',a']) [some (AO.own (Md.pile (AL' s i (o' (2 * i + 1)).toNat)) (pH (AL' s i (o' (2 * i + 1)).toNat)))] 1100 (h45' i s ((k46' i s).a ((k47' i s).a k1')))))) (VT.ite (!ahead (at' s (o' (2 * i + 1)).toNat) (at' s i)) (VT.leaf (AX.exit 0,[AV.iface 96 (pt' 0 0),i' i0,i' n,a',a',a',a',i' i,i' (2 * i + 1),i' (2 * i + 1),i' (2 * i + 2),a',i' i,z' (IntKind.i64.wrap (o' 2 * o' i)),i' (2 * i + 1),i' (2 * i + 1),i' n,b' (decide (o' (2 * i + 1) >= o' n)),g',i' (2 * i + 1),b' false,g',i' (2 * i + 1),i' (2 * i + 1),i' (2 * i + 2),i' (2 * i + 2),i' n,b' (decide (o' (2 * i + 2) < o' n)),g',u',u',u',u',g',a',AV.iface 96 (pt' 0 0),i' (2 * i + 1),i' i,b' (ahead (at' s (o' (2 * i + 1)).toNat) (at' s i)),j',a',a',a',a',a',a',a',a']) [some (AO.own (Md.pile s) (pH s))] 1100 (h48' i ((k46' i s).a k1'))) (VT.leaf (AX.normal,[AV.iface 96 (pt' 0 0),i' i0,i' n,a',a',a',a',i' (2 * i + 1),i' (2 * i + 1),i' (2 * i + 1),i' (2 * i + 2),a',i' i,z' (IntKind.i64.wrap (o' 2 * o' i)),i' (2 * i + 1),i' (2 * i + 1),i' n,b' (decide (o' (2 * i + 1) >= o' n)),g',i' (2 * i + 1),b' false,g',i' (2 * i + 1),i' (2 * i + 1),i' (2 * i + 2),i' (2 * i + 2),i' n,b' (decide (o' (2 * i + 2) < o' n)),g',u',u',u',u',g',a',AV.iface 96 (pt' 0 0),i' (2 * i + 1),i' i,b' (ahead (at' s (o' (2 * i + 1)).toNat) (at' s i)),g',AV.iface 96 (pt' 0 0),i' i,i' (2 * i + 1),AV.tuple [],i' (2 * i + 1),a',a',a']) [some (AO.own (Md.pile (AL' s i (o' (2 * i + 1)).toNat)) (pH (AL' s i (o' (2 * i + 1)).toNat)))] 1100 (h48' i ((k46' i s).a ((k47' i s).a k1'))))))) := χ
def BF' (s : Ps) (i n : Nat) : Nat := if 2 * i + 2 < n /\ ahead (at' s (2 * i + 2)) (at' s (2 * i + 1)) = true then 2 * i + 2 else 2 * i + 1
theorem HE' (s : Ps) (i n : Nat) : i < BF' s i n := by unfold BF'; split <;> omega
def AQ' (s : Ps) (i n : Nat) : Ps × Nat := if h : n <= 2 * i + 1 then (s, i) else if ahead (at' s (BF' s i n)) (at' s i) = true then AQ' (AL' s i (BF' s i n)) (BF' s i n) n else (s, i)
 termination_by n - i
 decreasing_by have := HE' s i n; omega
end
theorem G4' {k : Md -> AP AV} {st : Bool} {h h' : T} {n' : Nat} {lg lg' : Log} {c : Cnd} (he : (ownC i k).run st h n lg = .ok v h' n' lg' c) : ∃ m lg1, (k m).run st h n lg1 = .ok v h' n' lg' c := by
 obtain ⟨o, ho, he⟩ := B1' he; split at he
 ·exact ⟨_, _, he⟩
 ·exact (A1' he).elim
theorem R4' {o' : AO} (ha : AV.cls (kH [(0, o)]) A) (hv : AV.cls (kR [(0, o)] [(0, o')]) [v]) (ho : o.cl (kH [(0, o)])) (ho' : o'.cl (kR [(0, o)] [(0, o')])) : ClosedC A [(0, o)] [v] [(0, o')] :=
 ⟨rfl, rfl, ha, (fun x hx => by simp only [List.mem_singleton] at hx; subst hx; exact ho), hv, fun x hx => by simp only [List.mem_singleton] at hx; subst hx; exact ho'⟩
theorem DW' {F : HP} {s : Ps} {args : List AV} {v0 : AV} (ht : Tri Θ default f A [(0, pO s)] v0 [(0, o)]) (ha : AV.cls (kH [(0, pO s)]) A) (hv : AV.cls (kR [(0, pO s)] [(0, o)]) [v0]) (ho : o.cl (kR [(0, pO s)] [(0, o)]))
  {st : Bool} {W0 : World} {N : A4'} {h : T} {w : World} {vargs : Array Value} {h' : T} {n' : Nat} {lg lg' : Log} {c : Cnd} (he : (JV' s A args i v0 o).run st h n lg = .ok v h' n' lg' c) (hc : c.holds)
  (r : Rep W0 N F h w) (hargs : VRs N args vargs.toList) (hf : BU' N n n') : Calls Θ f vargs w (HM' W0 F N v h' n n') :=
 DR' B8' ht rfl (R4' ha hv trivial ho) he hc r hargs hf
theorem a2' (F : HP) : C1OK Θ F WB' f0' := by
 intro st W0 N h w args vargs v h' n n' lg lg' c p hp he hc r ha hf; unfold f0' at hp; split at hp
 ·rename_i i a b; cases hp; obtain ⟨m, lg1, he1⟩ := G4' he; split at he1
  ·rename_i s; obtain ⟨c1, he2, rfl⟩ := AA' he1; obtain ⟨⟨h1, h2, h3, h4⟩, hc2⟩ := (Cnd.and_iff _ _).1 hc; obtain ⟨a, rfl⟩ := Int.eq_ofNat_of_zero_le h1; obtain ⟨b, rfl⟩ := Int.eq_ofNat_of_zero_le h3; exact DW' (ZA' s a b h2 h4) ⟨rfl, Ye, Ye, Ye⟩ ⟨Ye, Ye⟩ trivial he2 hc2 r ha hf
  ·exact (A1' he1).elim
 ·cases hp
theorem ZY' (F : HP) : C1OK Θ F LL' eV' := by
 intro st W0 N h w args vargs v h' n n' lg lg' c p hp he hc r ha hf; unfold eV' at hp; split at hp
 ·rename_i i a b; cases hp; obtain ⟨m, lg1, he1⟩ := G4' he; split at he1
  ·rename_i s; obtain ⟨c1, he2, rfl⟩ := AA' he1; obtain ⟨⟨h1, h2, h3, h4, h5⟩, hc2⟩ := (Cnd.and_iff _ _).1 hc; obtain ⟨a, rfl⟩ := Int.eq_ofNat_of_zero_le h1; obtain ⟨b, rfl⟩ := Int.eq_ofNat_of_zero_le h3; exact DW' (XR' s a b h2 h4 h5) ⟨rfl, Ye, Ye, Ye⟩ ⟨Ye, Ye⟩ trivial he2 hc2 r ha hf
  ·exact (A1' he1).elim
 ·cases hp
theorem f1' (F : HP) : C1OK Θ F fLen cLen := by
 intro st W0 N h w args vargs v h' n n' lg lg' c p hp he hc r ha hf; unfold cLen at hp; split at hp
 ·rename_i i; cases hp; obtain ⟨m, lg1, he1⟩ := G4' he; split at he1
  ·exact DW' (eC' _) ⟨rfl, Ye⟩ ⟨Ye, Ye⟩ trivial he1 hc r ha hf
  ·exact DR' B8' ZB' rfl (R4' (A := [.ptr 0 0]) (v := iv (o' 0)) (o := pO0) (o' := pO0) ⟨rfl, Ye⟩ ⟨Ye, Ye⟩ trivial trivial) he1 hc r ha hf
  ·exact (A1' he1).elim
 ·cases hp
theorem a1' (F : HP) : C1OK Θ F CI' eY' := by
 intro st W0 N h w args vargs v h' n n' lg lg' c p hp he hc r ha hf; unfold eY' at hp; split at hp
 ·rename_i i t a b c; cases hp; obtain ⟨c0, he0, rfl⟩ := AA' he; obtain ⟨ht, hc0⟩ := (Cnd.and_iff _ _).1 hc; have ht' : t = 71 := ht; subst ht'; obtain ⟨m, lg1, he1⟩ := G4' he0; split at he1
  ·rename_i s; obtain ⟨c1, he2, rfl⟩ := AA' he1; obtain ⟨h1, hc2⟩ := (Cnd.and_iff _ _).1 hc0; exact DW' (Y1' s ⟨a, b, c⟩ h1) ⟨rfl, ⟨Ye, Ye, Ye, Ye⟩, Ye⟩ ⟨Ye, Ye⟩ trivial he2 hc2 r ha hf
  ·exact DR' B8' (UU' ⟨a, b, c⟩) rfl (R4' (A := [.ptr 0 0, .iface 71 (itA ⟨a, b, c⟩)]) (v := .tuple []) (o := pO0) (o' := pO (BA' ⟨[], [], [], 0⟩ ⟨a, b, c⟩)) ⟨rfl, ⟨Ye, Ye, Ye, Ye⟩, Ye⟩ ⟨Ye, Ye⟩ trivial trivial) he1 hc0 r ha hf
  ·exact (A1' he1).elim
 ·cases hp
theorem eZ' (F : HP) : C1OK Θ F fPop cPop := by
 intro st W0 N h w args vargs v h' n n' lg lg' c p hp he hc r ha hf; unfold cPop at hp; split at hp
 ·rename_i i; cases hp; obtain ⟨m, lg1, he1⟩ := G4' he; split at he1
  ·rename_i s; obtain ⟨c1, he2, rfl⟩ := AA' he1; obtain ⟨⟨h1, h2⟩, hc2⟩ := (Cnd.and_iff _ _).1 hc; exact DW' (d0' s h1 h2) ⟨rfl, Ye⟩ ⟨⟨Ye, Ye, Ye, Ye⟩, Ye⟩ trivial he2 hc2 r ha hf
  ·exact (A1' he1).elim
 ·cases hp
theorem R0' : ∀ x ∈ conP, ∀ F, C1OK Θ F x.1 x.2 := by
 intro x hx F; simp only [conP, List.mem_cons, List.not_mem_nil, or_false] at hx
 rcases hx with rfl | rfl | rfl | rfl | rfl
 ·exact a2' F
 ·exact ZY' F
 ·exact f1' F
 ·exact a1' F
 ·exact eZ' F
theorem HC' {ks : List Nat} {os : List (Option AO)} {vs' : List AV} (hv : VW vs (AV.rens (sg []) vs')) (ho : ∃ o1, getK ks os 0 = some o1 /\ OW o1 (o.ren (sg []))) : Fit ks vs os vs' [(0, o)] [] :=
 B2' [] rfl rfl hv ⟨ho, Ye⟩
structure PI (s : Ps) : Prop where
 m : MI s.m s.ck
 big : s.xs.length * 24 <= 140737488355328
theorem PI.swap {s : Ps} (h : PI s) (i j : Nat) : PI (AL' s i j) := ⟨(h.m.mset _ _).mset _ _, by rw [B3']; exact h.big⟩
theorem bL' (s : Ps) (j : Nat) (hP : PI s) (hj : j < s.xs.length) : LTri Θ default (DG' fUp) (upA j) [(0, pO s)] (.exit 0) (anys 23) [(0, pO (upS s j))] := by
 refine L8' (σ := {p : Ps × Nat // PI p.1 /\ p.2 < p.1.xs.length}) (g := fUp) (con := fun _ => conL conP) (claim := fun p => hUp p.1.2) (lcon := fun _ => K4' []) (fun p => upA p.1.2) (fun p => [(0, pO p.1.1)]) (fun p => (.exit 0, anys 23, [(0, pO (upS p.1.1 p.1.2))])) (fun p => p.1.2) [0] 1000 M2'
  (fun _ => rfl) (fun p F _ => GA' rfl fun x hx => R0' x hx F) (fun p F _ => DL' rfl fun x hx => by cases hx) ?_ ⟨(s, j), hP, hj⟩
 rintro ⟨⟨s, j⟩, hP, hj⟩ F _; show (lRun conP (hUp j) [] fUp (DG' fUp) (upA j) [(0, pO s)] [0] F).all _; rw [oUp_eq]; have hbig := hP.big; have hj : j < s.xs.length := hj; have hbig : s.xs.length * 24 <= 140737488355328 := hbig
 have hwr : IntKind.i64.wrap ((IntKind.i64.wrap (o' j - o' 1)).tdiv (o' 2)) = o' ((j - 1) / 2) := by
  have hj2 : j < s.xs.length := hj; rw [IntWalk.i64_in (o' j - o' 1) (by simp only [Z0]; omega)]
  cases j with
  | zero => rfl
  | succ j =>
   rw [IntWalk.i64_quo _ _ (by simp only [Z0]; omega)]; simp only [Z0]; omega
 have hfin : ∀ (l : List AV), l.length = 23 -> VW l (AV.rens (sg []) (anys 23)) := fun l hl => by rw [IN']; exact J5' hl
 have hup0 : (o' ((j - 1) / 2) == o' j) = decide (j = 0) := by
  simp only [Z0]
  by_cases h : j = 0
  ·subst h; rfl
  ·simp only [h, decide_false]; apply beq_eq_false_iff_ne.2; omega
 have hw : ∀ (x y : Nat), (o' x).toNat = x := fun x y => rfl
 rw [hup0]
 refine ⟨fun h1 => ?_, fun h1 => ⟨fun h2 => ?_, fun h2 => ?_⟩⟩
 ·simp only [decide_eq_true_eq] at h1
  have e : upS s j = s := by rw [upS, dif_pos h1]
  refine ⟨⟨⟨AY' hwr, Ye⟩, Ye⟩, .inr ⟨(fun h => by cases h), rfl, (HC' (hfin _ rfl) ⟨_, rfl, OW.of_eq ?_⟩).fits rfl⟩⟩; show _ = (pO (upS s j)).ren _; rw [e]; rfl
 ·simp only [decide_eq_false_iff_not] at h1; have h2' : (!ahead (at' s j) (at' s ((j - 1) / 2))) = true := h2
  have e : upS s j = s := by rw [upS, dif_neg h1, if_neg (by simpa using h2')]
  refine ⟨⟨⟨AY' hwr, Ye⟩, ⟨⟨by simp only [Z0]; omega, hj, by simp only [Z0]; omega, by show (j - 1) / 2 < _; omega⟩, Yb, Yc, Ye⟩, Ye⟩, .inr ⟨(fun h => by cases h), rfl, (HC' (hfin _ rfl) ⟨_, rfl, OW.of_eq ?_⟩).fits rfl⟩⟩
  show _ = (pO (upS s j)).ren _; rw [e]; rfl
 ·simp only [decide_eq_false_iff_not] at h1; have h2' : (!ahead (at' s j) (at' s ((j - 1) / 2))) = false := h2
  have e1 : (j - 1) / 2 < s.xs.length := ω
  have e : upS s j = upS (AL' s ((j - 1) / 2) j) ((j - 1) / 2) := by
   conv => lhs; rw [upS, dif_neg h1, if_pos (by simpa using h2')]
  refine ⟨⟨⟨AY' hwr, Ye⟩, ⟨⟨by simp only [Z0]; omega, hj, by simp only [Z0]; omega, e1⟩, Yb, Yc, Ye⟩, ⟨⟨by simp only [Z0]; omega, e1, by simp only [Z0]; omega, hj, hP.m⟩, Yb, Yc, Ye⟩, Ye⟩, .inl ⟨rfl, ⟨(AL' s ((j - 1) / 2) j, (j - 1) / 2), hP.swap _ _, by rw [B3']; exact e1⟩, ?_, ?_, [], HC' ?_ ⟨_, rfl, Yc⟩⟩⟩
  ·show (j - 1) / 2 < j; omega
  ·simp only [e]
  ·exact VW.cons Ya (VW.cons Ya (by rw [IN']; exact J5' rfl))
theorem NO' (s : Ps) (i n : Nat) (h : ¬ n <= 2 * i + 1) : BF' s i n < n := by unfold BF'; split <;> omega
theorem WM' (s : Ps) (i0 n i : Nat) (hP : PI s) (hn : n <= s.xs.length) (hi : i <= s.xs.length) : LTri Θ default (DG' EG') (G9' i0 n i) [(0, pO s)] (.exit 0) (G9' i0 n (AQ' s i n).2) [(0, pO (AQ' s i n).1)] := by
 refine L8' (σ := {p : Ps × Nat // PI p.1 /\ n <= p.1.xs.length /\ p.2 <= p.1.xs.length}) (g := EG') (con := fun _ => conL conP) (claim := fun p => eG' p.1.2) (lcon := fun _ => K4' []) (fun p => G9' i0 n p.1.2) (fun p => [(0, pO p.1.1)]) (fun p => (.exit 0, G9' i0 n (AQ' p.1.1 p.1.2 n).2, [(0, pO (AQ' p.1.1 p.1.2 n).1)])) (fun p => n - p.1.2) [0] 1000 M2'
  (fun _ => rfl) (fun p F _ => GA' rfl fun x hx => R0' x hx F) (fun p F _ => DL' rfl fun x hx => by cases hx) ?_ ⟨(s, i), hP, hn, hi⟩
 rintro ⟨⟨s, i⟩, hP, hn, hi⟩ F _; show (lRun conP (eG' i) [] EG' (DG' EG') (G9' i0 n i) [(0, pO s)] [0] F).all _; rw [YS']; have hn : n <= s.xs.length := hn; have hi : i <= s.xs.length := hi; have hbig : s.xs.length * 24 <= 140737488355328 := hP.big
 have hw1 : IntKind.i64.wrap (IntKind.i64.wrap (o' 2 * o' i) + o' 1) = o' (2 * i + 1) := by
  rw [IntWalk.i64_in (o' 2 * o' i) (by simp only [Z0]; omega), IntWalk.i64_in _ (by simp only [Z0]; omega)]; simp only [Z0]; omega
 have hw2 : IntKind.i64.wrap (o' (2 * i + 1) + o' 1) = o' (2 * i + 2) := by
  rw [IntWalk.i64_in _ (by simp only [Z0]; omega)]; simp only [Z0]; omega
 have hM := hP.m
 have hfin : ∀ (i0' n' i' : Nat) (l : List AV), l.length = 40 -> ∀ x3 x4 x5 x6, VW (hI :: iv (o' i0) :: iv (o' n) :: x3 :: x4 :: x5 :: x6 :: iv (o' i') :: l) (AV.rens (sg []) (G9' i0 n i')) := by
  intro _ _ i' l hl x3 x4 x5 x6
  have : AV.rens (sg []) (G9' i0 n i') = G9' i0 n i' := by
   show hI :: iv _ :: iv _ :: .any :: .any :: .any :: .any :: iv _ :: AV.rens (sg []) (anys 40) = _; rw [IN']; rfl
  rw [this]; exact VW.cons Ya (VW.cons Ya (VW.cons Ya (VW.cons (Wk.any _) (VW.cons (Wk.any _) (VW.cons (Wk.any _) (VW.cons (Wk.any _) (VW.cons Ya (J5' hl))))))))
 -- how a round ends
 have stop : ∀ (tm : List AV), (AQ' s i n) = (s, i) -> VW tm (AV.rens (sg []) (G9' i0 n i)) -> Fits [0] tm [some (pO s)] (G9' i0 n (AQ' s i n).2) [(0, pO (AQ' s i n).1)] := by
  intro tm e hv; rw [e]; exact (HC' hv ⟨_, rfl, Yc⟩).fits rfl
 have goes : ∀ j, j < n -> i < j -> AQ' s i n = AQ' (AL' s i j) j n -> ∀ tm, VW tm (AV.rens (sg []) (G9' i0 n j)) ->
   ∃ s' : {p : Ps × Nat // PI p.1 /\ n <= p.1.xs.length /\ p.2 <= p.1.xs.length}, n - s'.1.2 < n - i /\ ((AX.exit 0, G9' i0 n (AQ' s'.1.1 s'.1.2 n).2, [(0, pO (AQ' s'.1.1 s'.1.2 n).1)]) : AX × List AV × LH) = (.exit 0, G9' i0 n (AQ' s i n).2, [(0, pO (AQ' s i n).1)]) /\ ∃ l, Fit [0] tm [some (pO (AL' s i j))] (G9' i0 n s'.1.2) [(0, pO s'.1.1)] l := by
  intro j hj hij e tm hv
  refine ⟨⟨(AL' s i j, j), hP.swap _ _, by rw [B3']; exact hn, by rw [B3']; exact Nat.le_of_lt (Nat.lt_of_lt_of_le hj hn)⟩, ?_, ?_, [], HC' hv ⟨_, rfl, Yc⟩⟩
  ·show n - j < n - i; omega
  ·simp only [e]
 have big : ∀ h : ¬ n <= 2 * i + 1, AQ' s i n = if ahead (at' s (BF' s i n)) (at' s i) = true then AQ' (AL' s i (BF' s i n)) (BF' s i n) n else (s, i) := fun h => by conv => lhs; rw [AQ', dif_neg h]
 refine ⟨fun h1 => ?_, fun h1 => ⟨(fun h => by cases h), fun _ => ⟨fun h2 => ⟨fun h3 => ⟨fun h4 => ?_, fun h4 => ?_⟩, fun h3 => ⟨fun h4 => ?_, fun h4 => ?_⟩⟩, fun h2 => ⟨fun h4 => ?_, fun h4 => ?_⟩⟩⟩⟩
 ·simp only [Int.ofNat_eq_natCast, decide_eq_true_eq] at h1; exact ⟨⟨⟨AY' hw1, Ye⟩, Ye⟩, .inr ⟨(fun h => by cases h), rfl, stop _ (by rw [AQ', dif_pos ω]) (hfin 0 0 i _ rfl _ _ _ _)⟩⟩
 all_goals simp only [Int.ofNat_eq_natCast, decide_eq_true_eq, decide_eq_false_iff_not] at h1 h2
 all_goals have hb := big ω
 all_goals have h4' := h4
 all_goals simp only [Int.ofNat_eq_natCast, Int.toNat_natCast, Bool.not_eq_true', Bool.not_eq_false'] at h4'
 ·have h3' : ahead (at' s (2 * i + 2)) (at' s (2 * i + 1)) = true := h3
  have hj : BF' s i n = 2 * i + 2 := by rw [BF', if_pos ⟨ω, h3'⟩]
  rw [hj, h4'] at hb; refine ⟨?_, .inr ⟨(fun h => by cases h), rfl, stop _ (by rw [hb]; rfl) (hfin 0 0 i _ rfl _ _ _ _)⟩⟩; exact Cb4'
 ·have h3' : ahead (at' s (2 * i + 2)) (at' s (2 * i + 1)) = true := h3
  have hj : BF' s i n = 2 * i + 2 := by rw [BF', if_pos ⟨ω, h3'⟩]
  rw [hj, h4', if_pos rfl] at hb; refine ⟨?_, .inl ⟨rfl, goes (2 * i + 2) ω ω hb _ (hfin 0 0 (2 * i + 2) _ rfl _ _ _ _)⟩⟩; exact Cb4'
 ·have h3' : ahead (at' s (2 * i + 2)) (at' s (2 * i + 1)) = false := h3
  have hj : BF' s i n = 2 * i + 1 := by rw [BF', if_neg (by rw [h3']; simp)]
  rw [hj, h4'] at hb; refine ⟨?_, .inr ⟨(fun h => by cases h), rfl, stop _ (by rw [hb]; rfl) (hfin 0 0 i _ rfl _ _ _ _)⟩⟩; exact Cb4'
 ·have h3' : ahead (at' s (2 * i + 2)) (at' s (2 * i + 1)) = false := h3
  have hj : BF' s i n = 2 * i + 1 := by rw [BF', if_neg (by rw [h3']; simp)]
  rw [hj, h4', if_pos rfl] at hb; refine ⟨?_, .inl ⟨rfl, goes (2 * i + 1) ω ω hb _ (hfin 0 0 (2 * i + 1) _ rfl _ _ _ _)⟩⟩; exact Cb4'
 ·have hj : BF' s i n = 2 * i + 1 := by rw [BF', if_neg (by intro h; omega)]
  rw [hj, h4'] at hb; refine ⟨?_, .inr ⟨(fun h => by cases h), rfl, stop _ (by rw [hb]; rfl) (hfin 0 0 i _ rfl _ _ _ _)⟩⟩; exact Cb4'
 ·have hj : BF' s i n = 2 * i + 1 := by rw [BF', if_neg (by intro h; omega)]
  rw [hj, h4', if_pos rfl] at hb; refine ⟨?_, .inl ⟨rfl, goes (2 * i + 1) ω ω hb _ (hfin 0 0 (2 * i + 1) _ rfl _ _ _ _)⟩⟩; exact Cb4'
theorem H5' (x y : It) : ahead x y = true ↔ y.a < x.a \/ (x.a = y.a /\ x.b < y.b) := by
 simp [ahead]
theorem ahead_irrefl (x : It) : ahead x x = false := by
 cases h : ahead x x with
 | false => rfl
 | true => rw [H5'] at h; omega
theorem ahead_trans {x y z : It} (h1 : ahead x y = true) (h2 : ahead y z = true) : ahead x z = true := by
 rw [H5'] at *; omega
def nb (x y : It) : Prop := ahead y x = false
theorem VI' (x y : It) : nb x y ↔ ¬ (x.a < y.a \/ (y.a = x.a /\ y.b < x.b)) := by
 rw [nb, <- Bool.not_eq_true, H5']
theorem H9' {x y z : It} (h1 : nb x y) (h2 : nb y z) : nb x z := by rw [VI'] at *; omega
theorem CS' {x y : It} (h : ahead x y = true) : nb x y := by rw [VI']; rw [H5'] at h; omega
theorem RD' {x y : It} (h : nb x y) (hs : x.b ≠ y.b) : ahead x y = true := by rw [VI'] at h; rw [H5']; omega
def BT' (f : Nat -> It) (i j k : Nat) : It := if k = j then f i else if k = i then f j else f k
theorem DD' (s : Ps) (i j k : Nat) (hi : i < s.xs.length) (hj : j < s.xs.length) : at' (AL' s i j) k = BT' (at' s) i j k := by
 unfold BT'
 by_cases h1 : k = j
 ·rw [if_pos h1, h1]; exact OH' s i j hi hj
 ·rw [if_neg h1]
  by_cases h2 : k = i
  ·rw [if_pos h2, h2]; exact OI' s i j hi hj
  ·rw [if_neg h2]; simp only [AL', at', List.getD]; rw [List.getElem?_set_ne (Ne.symm h1), List.getElem?_set_ne (Ne.symm h2)]
theorem MW' (s : Ps) (i : Nat) (hi : i < s.xs.length) : at' s i = s.xs[i] := by
 simp [at', List.getD, List.getElem?_eq_getElem hi]
theorem EK' (s : Ps) (i j : Nat) (hi : i < s.xs.length) (hj : j < s.xs.length) : (AL' s i j).xs.Perm s.xs := by
 simp only [AL', MW' s i hi, MW' s j hj]; exact List.set_set_perm hi hj
def HX' (f : Nat -> It) (n : Nat) : Prop := ∀ c, 0 < c -> c < n -> nb (f ((c - 1) / 2)) (f c)
def LY' (f : Nat -> It) (n j : Nat) : Prop := (∀ c, 0 < c -> c < n -> c ≠ j -> nb (f ((c - 1) / 2)) (f c)) /\ ∀ c, 0 < c -> c < n -> (c - 1) / 2 = j -> 0 < j -> nb (f ((j - 1) / 2)) (f c)
def HL' (f : Nat -> It) (n i : Nat) : Prop := (∀ c, 0 < c -> c < n -> (c - 1) / 2 ≠ i -> nb (f ((c - 1) / 2)) (f c)) /\ ∀ c, 0 < c -> c < n -> (c - 1) / 2 = i -> 0 < i -> nb (f ((i - 1) / 2)) (f c)
theorem LG' {f : Nat -> It} (h : LY' f n j) (hj0 : 0 < j) (hjn : j < n) (ha : ahead (f j) (f ((j - 1) / 2)) = true) : LY' (BT' f ((j - 1) / 2) j) n ((j - 1) / 2) := by
 have hpj : (j - 1) / 2 < j := ω
 have hpn : (j - 1) / 2 ≠ j := ω
 have e1 : BT' f ((j - 1) / 2) j j = f ((j - 1) / 2) := if_pos rfl
 have e2 : BT' f ((j - 1) / 2) j ((j - 1) / 2) = f j := by rw [BT', if_neg hpn, if_pos rfl]
 have e3 : ∀ k, k ≠ j -> k ≠ (j - 1) / 2 -> BT' f ((j - 1) / 2) j k = f k := fun k h1 h2 => by rw [BT', if_neg h1, if_neg h2]
 refine ⟨fun c hc hcn hne => ?_, fun c hc hcn hpc hp0 => ?_⟩
 ·by_cases hcj : c = j
  ·rw [hcj, e1, e2]; exact CS' ha
  ·rw [e3 c hcj hne]
   by_cases h1 : (c - 1) / 2 = j
   ·rw [h1, e1]; exact h.2 c hc hcn h1 hj0
   ·by_cases h2 : (c - 1) / 2 = (j - 1) / 2
    ·rw [h2, e2]; exact H9' (CS' ha) (h2 ▸ h.1 c hc hcn hcj)
    ·rw [e3 _ h1 h2]; exact h.1 c hc hcn hcj
 ·have hq : ((j - 1) / 2 - 1) / 2 ≠ j := ω
  have hq2 : ((j - 1) / 2 - 1) / 2 ≠ (j - 1) / 2 := ω
  rw [e3 _ hq hq2]; have hb := h.1 ((j - 1) / 2) hp0 ω hpn
  by_cases hcj : c = j
  ·rw [hcj, e1]; exact hb
  ·rw [e3 c hcj ω]; exact H9' hb (hpc ▸ h.1 c hc hcn hcj)
theorem G6' {f : Nat -> It} (h : LY' f n j) (hd : j = 0 \/ nb (f ((j - 1) / 2)) (f j)) : HX' f n := by
 intro c hc hcn
 by_cases e : c = j
 ·rcases hd with h0 | h1
  ·omega
  ·rw [e]; exact h1
 ·exact h.1 c hc hcn e
theorem bM' : ∀ (j : Nat) (s : Ps), j < s.xs.length -> LY' (at' s) s.xs.length j -> HX' (at' (upS s j)) s.xs.length /\ (upS s j).xs.Perm s.xs := by
 intro j
 induction j using Nat.strongRecOn with
 | ind j ih =>
  intro s hj h; rw [upS]; split
  ·rename_i h0; exact ⟨G6' h (.inl h0), List.Perm.refl _⟩
  ·split
   ·rename_i h0 ha
    have hp : (j - 1) / 2 < s.xs.length := ω
    have hf : at' (AL' s ((j - 1) / 2) j) = BT' (at' s) ((j - 1) / 2) j := funext fun k => DD' s _ _ k hp hj
    have h2 := LG' h ω hj ha; have := ih ((j - 1) / 2) ω (AL' s ((j - 1) / 2) j) (by rw [B3']; exact hp) (by rw [hf, B3']; exact h2); rw [B3'] at this; exact ⟨this.1, this.2.trans (EK' s _ _ hp hj)⟩
   ·rename_i h0 ha; exact ⟨G6' h (.inr (by rw [nb]; simpa using ha)), List.Perm.refl _⟩
theorem NL' {f : Nat -> It} (h : HL' f n i) (hji : (j - 1) / 2 = i) (hj0 : 0 < j) (hjn : j < n) (ha : ahead (f j) (f i) = true) (hs : ∀ c, 0 < c -> c < n -> (c - 1) / 2 = i -> nb (f j) (f c)) : HL' (BT' f i j) n j := by
 have hij : i ≠ j := ω
 have e1 : BT' f i j j = f i := if_pos rfl
 have e2 : BT' f i j i = f j := by rw [BT', if_neg hij, if_pos rfl]
 have e3 : ∀ k, k ≠ j -> k ≠ i -> BT' f i j k = f k := fun k h1 h2 => by rw [BT', if_neg h1, if_neg h2]
 refine ⟨fun c hc hcn hne => ?_, fun c hc hcn hpc _ => ?_⟩
 ·by_cases h1 : (c - 1) / 2 = i
  ·rw [h1, e2]
   by_cases hcj : c = j
   ·rw [hcj, e1]; exact CS' ha
   ·rw [e3 c hcj ω]; exact hs c hc hcn h1
  ·rw [e3 _ hne h1]
   by_cases hci : c = i
   ·rw [hci, e2]
    have hi0 : 0 < i := ω
    have := h.2 j hj0 hjn hji hi0; exact this
   ·rw [e3 c (fun e => h1 (e ▸ hji)) hci]; exact h.1 c hc hcn h1
 ·have hcj : c ≠ j := ω
  have hci : c ≠ i := ω
  rw [hji, e2, e3 c hcj hci]; have := h.1 c hc hcn ω
  rwa [hpc] at this
theorem G7' {f : Nat -> It} (h : HL' f n i) (hd : ∀ c, 0 < c -> c < n -> (c - 1) / 2 = i -> nb (f i) (f c)) : HX' f n := by
 intro c hc hcn
 by_cases e : (c - 1) / 2 = i
 ·rw [e]; exact hd c hc hcn e
 ·exact h.1 c hc hcn e
theorem PL' (n : Nat) : ∀ (d : Nat) (s : Ps) (i : Nat), n - i <= d -> n <= s.xs.length -> HL' (at' s) n i -> HX' (at' (AQ' s i n).1) n /\ (AQ' s i n).1.xs.Perm s.xs /\ ∀ k, n <= k -> at' (AQ' s i n).1 k = at' s k := by
 intro d
 induction d with
 | zero =>
  intro s i hd hn h; rw [AQ', dif_pos ω]
  exact ⟨G7' h (fun c hc hcn e => ω), List.Perm.refl _, fun _ _ => rfl⟩
 | succ d ih =>
  intro s i hd hn h; rw [AQ']; split
  ·exact ⟨G7' h (fun c hc hcn e => ω), List.Perm.refl _, fun _ _ => rfl⟩
  ·rename_i hlt; have hjn := NO' s i n hlt
   have hji : (BF' s i n - 1) / 2 = i := by unfold BF'; split <;> omega
   have hj0 : 0 < BF' s i n := by unfold BF'; split <;> omega
   have hmin : ∀ c, 0 < c -> c < n -> (c - 1) / 2 = i -> nb (at' s (BF' s i n)) (at' s c) := by
    intro c hc hcn e
    have hcase : c = 2 * i + 1 \/ c = 2 * i + 2 := ω
    unfold BF'; split
    ·rename_i hh
     rcases hcase with rfl | rfl
     ·exact CS' hh.2
     ·exact ahead_irrefl _
    ·rename_i hh
     rcases hcase with rfl | rfl
     ·exact ahead_irrefl _
     ·cases hb : ahead (at' s (2 * i + 2)) (at' s (2 * i + 1)) with
      | false => exact hb
      | true => exact absurd ⟨hcn, hb⟩ hh
   split
   ·rename_i ha
    have hj2 : BF' s i n < s.xs.length := ω
    have hi2 : i < s.xs.length := ω
    have hf : at' (AL' s i (BF' s i n)) = BT' (at' s) i (BF' s i n) := funext fun k => DD' s _ _ k hi2 hj2
    have := ih (AL' s i (BF' s i n)) (BF' s i n) (by have := HE' s i n; omega) (by rw [B3']; exact hn) (by rw [hf]; exact NL' h hji hj0 hjn ha hmin)
    refine ⟨this.1, this.2.1.trans (EK' s _ _ hi2 hj2), fun k hk => ?_⟩
    rw [this.2.2 k hk, hf, BT', if_neg ω, if_neg ω]
   ·rename_i ha
    refine ⟨G7' h fun c hc hcn e => ?_, List.Perm.refl _, fun _ _ => rfl⟩
    have ha' : nb (at' s i) (at' s (BF' s i n)) := by simpa [nb] using ha
    exact H9' ha' (hmin c hc hcn e)
theorem W5' {f : Nat -> It} (h : HX' f n) : ∀ c, c < n -> nb (f 0) (f c) := by
 intro c
 induction c using Nat.strongRecOn with
 | ind c ih =>
  intro hc
  by_cases h0 : c = 0
  ·rw [h0]; exact ahead_irrefl _
  ·exact H9' (ih ((c - 1) / 2) ω ω) (h c ω hc)
def JR' (s : Ps) : Prop := ∀ k v, AG' k s.m = some v ↔ ∃ i, i < s.xs.length /\ (at' s i).b = k /\ v = (i : Int)
theorem JR'.inj {s : Ps} (h : JR' s) (hi : i < s.xs.length) (hj : j < s.xs.length) (e : (at' s i).b = (at' s j).b) : i = j := by
 have h1 := (h (at' s i).b i).2 ⟨i, hi, rfl, rfl⟩; have h2 := (h (at' s i).b j).2 ⟨j, hj, e.symm, rfl⟩; rw [h1] at h2; have : (i : Int) = j := Option.some.inj h2; omega
theorem JR'.swap {s : Ps} (h : JR' s) (hi : i < s.xs.length) (hj : j < s.xs.length) : JR' (AL' s i j) := by
 intro k v
 have hm : AG' k (AL' s i j).m = if k = (at' s i).b then some (j : Int) else if k = (at' s j).b then some (i : Int) else AG' k s.m := by
  show AG' k (T2' s i j) = _; rw [T2', CT', CT']
 rw [hm]
 by_cases h1 : k = (at' s i).b
 ·rw [if_pos h1]
  constructor
  ·intro e
   refine ⟨j, by rw [B3']; exact hj, ?_, (Option.some.inj e).symm⟩
   rw [DD' s i j j hi hj, BT', if_pos rfl, h1]
  ·rintro ⟨c, hc, hcb, rfl⟩; rw [B3'] at hc; rw [DD' s i j c hi hj, BT'] at hcb; split at hcb
   ·rename_i e; rw [e]
   ·split at hcb
    ·rename_i e1 e2; have := h.inj hj hi (hcb.trans h1); omega
    ·rename_i e1 e2; have := h.inj hc hi (hcb.trans h1); exact absurd this e2
 ·rw [if_neg h1]
  by_cases h2 : k = (at' s j).b
  ·rw [if_pos h2]
   constructor
   ·intro e
    refine ⟨i, by rw [B3']; exact hi, ?_, (Option.some.inj e).symm⟩
    rw [DD' s i j i hi hj, BT']; split
    ·rename_i e1; rw [h2, e1]
    ·rw [if_pos rfl, h2]
   ·rintro ⟨c, hc, hcb, rfl⟩; rw [B3'] at hc; rw [DD' s i j c hi hj, BT'] at hcb; split at hcb
    ·exact absurd hcb.symm h1
    ·split at hcb
     ·rename_i e1 e2; rw [e2]
     ·rename_i e1 e2; exact absurd (h.inj hc hj (hcb.trans h2)) e1
  ·rw [if_neg h2, h k v]
   constructor
   ·rintro ⟨c, hc, hcb, hv⟩
    refine ⟨c, by rw [B3']; exact hc, ?_, hv⟩
    rw [DD' s i j c hi hj, BT', if_neg (fun e => h2 (by rw [<- e, hcb])), if_neg (fun e => h1 (by rw [<- e, hcb]))]; exact hcb
   ·rintro ⟨c, hc, hcb, hv⟩; rw [B3'] at hc; rw [DD' s i j c hi hj, BT'] at hcb; split at hcb
    ·exact absurd hcb.symm h1
    ·split at hcb
     ·exact absurd hcb.symm h2
     ·exact ⟨c, hc, hcb, hv⟩
theorem aC' : ∀ (j : Nat) (s : Ps), j < s.xs.length -> JR' s -> JR' (upS s j) := by
 intro j
 induction j using Nat.strongRecOn with
 | ind j ih =>
  intro s hj h; rw [upS]; split
  ·exact h
  ·split
   ·have hp : (j - 1) / 2 < s.xs.length := ω
    exact ih ((j - 1) / 2) ω _ (by rw [B3']; exact hp) (h.swap hp hj)
   ·exact h
theorem SN' (n : Nat) : ∀ (d : Nat) (s : Ps) (i : Nat), n - i <= d -> n <= s.xs.length -> JR' s -> JR' (AQ' s i n).1 := by
 intro d
 induction d with
 | zero =>
  intro s i hd hn h; rw [AQ', dif_pos ω]; exact h
 | succ d ih =>
  intro s i hd hn h; rw [AQ']; split
  ·exact h
  ·rename_i hlt; have hjn := NO' s i n hlt; have hg := HE' s i n; split
   ·exact ih _ _ ω (by rw [B3']; exact hn) (h.swap ω ω)
   ·exact h
noncomputable section
def upL : List AV -> AP (AX × List AV) := fun tmps => match tmps with
 | .iface _ (.ptr i 0) :: .v (.int .i64 j) :: _ => .read i fun o => match o with
  | .own (.pile s) _ => .need (0 <= j /\ j.toNat < s.xs.length /\ PI s) (useG (fun _ => i) (upA j.toNat) tmps [(0, pO s)] (.leaf (.exit 0) (anys 23) [(0, pO (upS s j.toNat))]))
  | _ => .fail "up"
 | _ => .fail "up"
def TO' : List AV -> AP (AX × List AV) := fun tmps => match tmps with
 | .iface _ (.ptr p 0) :: .v (.int .i64 i0) :: .v (.int .i64 n) :: _ :: _ :: _ :: _ :: .v (.int .i64 i) :: _ => .read p fun o => match o with
  | .own (.pile s) _ => .need (0 <= i0 /\ 0 <= n /\ 0 <= i /\ n.toNat <= s.xs.length /\ i.toNat <= s.xs.length /\ PI s) (useG (fun _ => p) (G9' i0.toNat n.toNat i.toNat) tmps [(0, pO s)] (.leaf (.exit 0) (G9' i0.toNat n.toNat (AQ' s i.toNat n.toNat).2) [(0, pO (AQ' s i.toNat n.toNat).1)]))
  | _ => .fail "down"
 | _ => .fail "down"
abbrev k49' (q0 : Ps) : Cnd := (ow' (AO.own (Md.pile q0) (pH q0)))
theorem d6' (s : Ps) (j : Nat) (F : HP) : oRun [] AF' [(fUp, 0, DG' fUp, upL)] fUp [hI, iv (o' j)] [(0, pO s)] [0] F = VT.leaf (AV.tuple []) [some (AO.own (Md.pile (upS s j)) (pH (upS s j)))] 1100 ((p' ((fUp,0,DG' fUp,upL).snd.snd.fst = (fUp,0,DG' fUp,upL).snd.snd.fst)).a ((p' (o' 0 <= o' j /\ j < s.xs.length /\ PI s)).a ((p' (VW (AV.iface 96 (pt' 0 0)::i' j::ru16 (ru4 (u'::[]))) (AV.iface 96 (pt' 0 0)::i' j::ra16 (ra4 (a'::[]))))).a ((k49' s).a k1')))) := χ
theorem VF' (s : Ps) (i n : Nat) (F : HP) : oRun [] AF' [(EG', 2, DG' EG', TO')] EG' [hI, iv (o' i), iv (o' n)] [(0, pO s)] [0] F = VT.leaf (b' (decide (o' (AQ' s i n).snd > o' i))) [some (AO.own (Md.pile (AQ' s i n).fst) (pH (AQ' s i n).fst))] 1100 ((p' ((EG',2,DG' EG',TO').snd.snd.fst = (EG',2,DG' EG',TO').snd.snd.fst)).a ((p' (o' 0 <= o' i /\ o' 0 <= o' n /\ o' 0 <= o' i /\ n <= s.xs.length /\ i <= s.xs.length /\ PI s)).a ((p' (VW (AV.iface 96 (pt' 0 0)::i' i::i' n::u'::u'::u'::b' false::i' i::u'::u'::u'::i' i::ru16 (ru16 (ru4 ([])))) (AV.iface 96 (pt' 0 0)::i' i::i' n::ra4 (i' i::ra16 (ra16 (ra8 ([]))))))).a ((k49' s).a k1')))) := χ
def cUp : List AV -> Option (AP AV) := fun args => match args with
 | [.iface t (.ptr i 0), .v (.int .i64 j)] => some (.need (t = 96) (ownC i fun m => match m with
  | .pile s => .need (0 <= j /\ j.toNat < s.xs.length /\ PI s) (JV' s [hI, iv j] args i (.tuple []) (pO (upS s j.toNat)))
  | _ => .fail "pile"))
 | _ => none
def f4' : List AV -> Option (AP AV) := fun args => match args with
 | [.iface t (.ptr p 0), .v (.int .i64 i), .v (.int .i64 n)] => some (.need (t = 96) (ownC p fun m => match m with
  | .pile s => .need (0 <= n /\ 0 <= i /\ n.toNat <= s.xs.length /\ i.toNat <= s.xs.length /\ PI s) (JV' s [hI, iv i, iv n] args p (.v (.bool (decide (i.toNat < (AQ' s i.toNat n.toNat).2)))) (pO (AQ' s i.toNat n.toNat).1))
  | _ => .fail "pile"))
 | _ => none
def conH : List (FuncId × (List AV -> Option (AP AV))) := (fUp, cUp) :: (EG', f4') :: conP
abbrev EC' : Nat := 59
abbrev QX' : Nat := 51
def itF (x : It) : AV := .iface 71 (itA x)
theorem VD' (s : Ps) (x : It) (F : HP) : oRun conH (AN' [(EC', 1, 3, hv (iv (o' s.xs.length)))]) [] EC' [hI, itF x] [(0, pO s)] [0] F = VT.leaf (AV.tuple []) [some (AO.own (Md.pile (upS (BA' s (It.mk x.a x.b x.c)) (o' s.xs.length).toNat)) (pH (upS (BA' s (It.mk x.a x.b x.c)) (o' s.xs.length).toNat)))] 1100 (((p' (71 = 71)).a ((p' (Room s)).a ((vw' [pt' 0 0,AV.iface 71 (AV.agg [z' x.a,z' x.b,z' x.c])]).a (f' (OW (AO.own (Md.pile s) (pH s)) (AO.own (Md.pile s) (pH s))))))).a (((vw' [pt' 0 0]).a (f' (OW (AO.own (Md.pile (BA' s (It.mk x.a x.b x.c))) (pH (BA' s (It.mk x.a x.b x.c)))) (AO.own (Md.pile (BA' s (It.mk x.a x.b x.c))) (pH (BA' s (It.mk x.a x.b x.c))))))).a ((f' (Wk (z' (IntKind.i64.wrap (o' (s.xs ++ [It.mk x.a x.b x.c]).length - o' 1))) (i' s.xs.length))).a (((p' (96 = 96)).a ((p' (o' 0 <= o' s.xs.length /\ (o' s.xs.length).toNat < (s.xs ++ [It.mk x.a x.b x.c]).length /\ PI (BA' s (It.mk x.a x.b x.c)))).a ((vw' [AV.iface 96 (pt' 0 0),i' s.xs.length]).a (f' (OW (AO.own (Md.pile (BA' s (It.mk x.a x.b x.c))) (pH (BA' s (It.mk x.a x.b x.c)))) (AO.own (Md.pile (BA' s (It.mk x.a x.b x.c))) (pH (BA' s (It.mk x.a x.b x.c))))))))).a k1')))) := χ
theorem T9' (x : It) (F : HP) : oRun conH (AN' [(EC', 1, 3, hv (iv (o' 0)))]) [] EC' [hI, itF x] [(0, pO0)] [0] F = VT.leaf (AV.tuple []) [some (AO.own (Md.pile (upS (BA' (Ps.mk [] [] [] 0) (It.mk x.a x.b x.c)) 0)) (pH (upS (BA' (Ps.mk [] [] [] 0) (It.mk x.a x.b x.c)) 0)))] 1100 (((p' (71 = 71)).a ((vw' [pt' 0 0,AV.iface 71 (AV.agg [z' x.a,z' x.b,z' x.c])]).a (f' (OW (AO.own Md.pile0 pH0) (AO.own Md.pile0 pH0))))).a (((vw' [pt' 0 0]).a (f' (OW (AO.own (Md.pile (BA' (Ps.mk [] [] [] 0) (It.mk x.a x.b x.c))) (pH (BA' (Ps.mk [] [] [] 0) (It.mk x.a x.b x.c)))) (AO.own (Md.pile (BA' (Ps.mk [] [] [] 0) (It.mk x.a x.b x.c))) (pH (BA' (Ps.mk [] [] [] 0) (It.mk x.a x.b x.c))))))).a ((f' (Wk (i' 0) (i' 0))).a (((p' (96 = 96)).a ((p' (o' 0 <= o' 0 /\ 0 < 1 /\ PI (BA' (Ps.mk [] [] [] 0) (It.mk x.a x.b x.c)))).a ((vw' [AV.iface 96 (pt' 0 0),i' 0]).a (f' (OW (AO.own (Md.pile (BA' (Ps.mk [] [] [] 0) (It.mk x.a x.b x.c))) (pH (BA' (Ps.mk [] [] [] 0) (It.mk x.a x.b x.c)))) (AO.own (Md.pile (BA' (Ps.mk [] [] [] 0) (It.mk x.a x.b x.c))) (pH (BA' (Ps.mk [] [] [] 0) (It.mk x.a x.b x.c))))))))).a k1')))) := χ
theorem YJ' (s : Ps) (F : HP) : oRun conH (AN' [(QX', 1, 2, hv (iv (o' (s.xs.length - 1))))]) [] QX' [hI] [(0, pO s)] [0] F = VT.leaf (AV.iface 71 (AV.agg [v' (vi' I' (at' (AQ' (AL' s 0 (o' (s.xs.length - 1)).toNat) 0 (o' (s.xs.length - 1)).toNat).fst ((AQ' (AL' s 0 (o' (s.xs.length - 1)).toNat) 0 (o' (s.xs.length - 1)).toNat).fst.xs.length - 1)).a),v' (vi' I' (at' (AQ' (AL' s 0 (o' (s.xs.length - 1)).toNat) 0 (o' (s.xs.length - 1)).toNat).fst ((AQ' (AL' s 0 (o' (s.xs.length - 1)).toNat) 0 (o' (s.xs.length - 1)).toNat).fst.xs.length - 1)).b),v' (vi' I' (at' (AQ' (AL' s 0 (o' (s.xs.length - 1)).toNat) 0 (o' (s.xs.length - 1)).toNat).fst ((AQ' (AL' s 0 (o' (s.xs.length - 1)).toNat) 0 (o' (s.xs.length - 1)).toNat).fst.xs.length - 1)).c)])) [some (AO.own (Md.pile (popS (AQ' (AL' s 0 (o' (s.xs.length - 1)).toNat) 0 (o' (s.xs.length - 1)).toNat).fst)) (pH (popS (AQ' (AL' s 0 (o' (s.xs.length - 1)).toNat) 0 (o' (s.xs.length - 1)).toNat).fst)))] 1100 (((vw' [pt' 0 0]).a (f' (OW (AO.own (Md.pile s) (pH s)) (AO.own (Md.pile s) (pH s))))).a ((f' (Wk (z' (IntKind.i64.wrap (o' s.xs.length - o' 1))) (i' (s.xs.length - 1)))).a (((p' (o' 0 <= o' 0 /\ 0 < s.xs.length /\ o' 0 <= o' (s.xs.length - 1) /\ (o' (s.xs.length - 1)).toNat < s.xs.length /\ MI s.m s.ck)).a ((vw' [pt' 0 0,i' 0,i' (s.xs.length - 1)]).a (f' (OW (AO.own (Md.pile s) (pH s)) (AO.own (Md.pile s) (pH s)))))).a (((p' (96 = 96)).a ((p' (o' 0 <= o' (s.xs.length - 1) /\ o' 0 <= o' 0 /\ (o' (s.xs.length - 1)).toNat <= ((s.xs.set 0 (at' s (o' (s.xs.length - 1)).toNat)).set (o' (s.xs.length - 1)).toNat (at' s 0)).length /\ 0 <= ((s.xs.set 0 (at' s (o' (s.xs.length - 1)).toNat)).set (o' (s.xs.length - 1)).toNat (at' s 0)).length /\ PI (AL' s 0 (o' (s.xs.length - 1)).toNat))).a ((vw' [AV.iface 96 (pt' 0 0),i' 0,i' (s.xs.length - 1)]).a (f' (OW (AO.own (Md.pile (AL' s 0 (o' (s.xs.length - 1)).toNat)) (pH (AL' s 0 (o' (s.xs.length - 1)).toNat))) (AO.own (Md.pile (AL' s 0 (o' (s.xs.length - 1)).toNat)) (pH (AL' s 0 (o' (s.xs.length - 1)).toNat)))))))).a (((p' (0 < (AQ' (AL' s 0 (o' (s.xs.length - 1)).toNat) 0 (o' (s.xs.length - 1)).toNat).fst.xs.length /\ (AQ' (AL' s 0 (o' (s.xs.length - 1)).toNat) 0 (o' (s.xs.length - 1)).toNat).fst.xs.length <= 9223372036854775807)).a ((vw' [pt' 0 0]).a (f' (OW (AO.own (Md.pile (AQ' (AL' s 0 (o' (s.xs.length - 1)).toNat) 0 (o' (s.xs.length - 1)).toNat).fst) (pH (AQ' (AL' s 0 (o' (s.xs.length - 1)).toNat) 0 (o' (s.xs.length - 1)).toNat).fst)) (AO.own (Md.pile (AQ' (AL' s 0 (o' (s.xs.length - 1)).toNat) 0 (o' (s.xs.length - 1)).toNat).fst) (pH (AQ' (AL' s 0 (o' (s.xs.length - 1)).toNat) 0 (o' (s.xs.length - 1)).toNat).fst)))))).a k1'))))) := χ
abbrev fNew : Nat := 26
abbrev _root_.Go.Proofs.Ytjjjchmkonnpfaa.D2' : Nat := 46
abbrev _root_.Go.Proofs.Ytjjjchmkonnpfaa.DN' : Nat := 33
abbrev _root_.Go.Proofs.Ytjjjchmkonnpfaa.DO' : Nat := 34
abbrev _root_.Go.Proofs.Ytjjjchmkonnpfaa.DH' : Nat := 56
theorem QL' (F : HP) : oRun [] AF' [] fNew [] [] [1100, 1101] F = VT.leaf (pt' 1101 0) [some (AO.map [] 0),some (ce' [e',AV.map 1100] 170)] 1102 k1' := χ
theorem YI' (s : Ps) (F : HP) : oRun [] AF' [] DO' [.ptr 0 0] (pL s) [0, 1001, 1002] F = VT.leaf (z' ↑s.xs.length) [some (ce' [AV.slice 1001 0 s.xs.length 3 (Cp.lo (s.xs.length + s.g.length)),AV.map 1002] 170),some (ce' (rowV enc (s.xs ++ s.g)) 142),some (AO.map (mE iv s.m) s.ck)] 1100 (k12'.a k1') := χ
theorem VC' (F : HP) : oRun [] AF' [] DO' [.ptr 0 0] pL0 [0, 1002] F = VT.leaf (i' 0) [some (ce' [e',AV.map 1002] 170),some (AO.map [] 0)] 1100 (k12'.a k1') := χ
def IU' (s : Ps) (x : It) : Ps := upS (BA' s x) s.xs.length
def E4' (s : Ps) : Ps := (AQ' (AL' s 0 (s.xs.length - 1)) 0 (s.xs.length - 1)).1
def LF' (s : Ps) : Ps := popS (E4' s)
def E3' (s : Ps) : It := at' (E4' s) ((E4' s).xs.length - 1)
def EY' : Ps := ⟨[], [], [], 0⟩
def QK' (i r m : Nat) : Nat -> Nat := fun k => match Nat.beq k 0 with
 | true => i
 | false => match Nat.beq k 1001 with
  | true => r
  | false => m
def LT' (s : Ps) : List AV -> Option (AP AV) := fun args => match args with
 | [.iface t (.ptr i 0), .iface t' (.agg [.v (.int .i64 a), .v (.int .i64 b), .v (.int .i64 c)])] => some (.need (t = 96 /\ t' = 71 /\ Room s /\ PI s) (.read i fun o => match o with
  | .cells [.slice r _ _ _ _, .map m] _ => useC (QK' i r m) [hI, itF ⟨a, b, c⟩] args (pL s) (.leaf .ret [.tuple []] [(0, pO (IU' s ⟨a, b, c⟩))])
  | _ => .fail "push"))
 | _ => none
def J1' : List AV -> Option (AP AV) := fun args => match args with
 | [.iface t (.ptr i 0), .iface t' (.agg [.v (.int .i64 a), .v (.int .i64 b), .v (.int .i64 c)])] => some (.need (t = 96 /\ t' = 71) (.read i fun o => match o with
  | .cells [_, .map m] _ => useC (QK' i m m) [hI, itF ⟨a, b, c⟩] args pL0 (.leaf .ret [.tuple []] [(0, pO (BA' EY' ⟨a, b, c⟩))])
  | _ => .fail "push"))
 | _ => none
def SS' (s : Ps) : List AV -> Option (AP AV) := fun args => match args with
 | [.iface t (.ptr i 0)] => some (.need (t = 96 /\ PI s /\ 0 < s.xs.length) (.read i fun o => match o with
  | .cells [.slice r _ _ _ _, .map m] _ => useC (QK' i r m) [hI] args (pL s) (.leaf .ret [itF (E3' s)] [(0, pO (LF' s))])
  | _ => .fail "pop"))
 | _ => none
def L9' (k : Int) (m : IMap Int) : Int := (AG' k m).getD 0
def hPut (s : Ps) (x : It) : AO' := AN' [(D2', 1, 7, hv (.tuple [iv (L9' x.b s.m), .v (.bool (AG' x.b s.m).isSome)]))]
def eF' : AO' := AN' [(D2', 1, 7, hv (.tuple [iv 0, .lit false]))]
abbrev k50' (q0 : Ps) (q1 : It) (q2 : HP) : Cnd := ((p' (findKey Try.prog (env0 [(59,LT' q0)] (hPut q0 q1) [] q2) 3 (z' q1.b) (mE iv q0.m) 0 = AP.ret (AR' (z' q1.b) (mE iv q0.m) 0))).a ((p' (BY' (AR' (z' q1.b) (mE iv q0.m) 0) (vi' I' (o' 0)) = v' (vi' I' (BY' (AR' (z' q1.b) (mE iv q0.m) 0) (vi' I' (o' 0))).intOf))).a (f' (Wk (AV.tuple [v' (vi' I' (BY' (AR' (z' q1.b) (mE iv q0.m) 0) (vi' I' (o' 0))).intOf),v' (vb' (AR' (z' q1.b) (mE iv q0.m) 0).isSome)]) (AV.tuple [z' (L9' q1.b q0.m),v' (vb' (AG' q1.b q0.m).isSome)])))))
theorem YG' (s : Ps) (x : It) (F : HP) : oRun [(EC', LT' s)] (hPut s x) [] D2' [.ptr 0 0, itA x] (pL s) [0, 1001, 1002] F = VT.ite (AG' x.b s.m).isSome (VT.leaf (b' false) [some (ce' [AV.slice 1001 0 s.xs.length 3 (Cp.lo (s.xs.length + s.g.length)),AV.map 1002] 170),some (ce' (rowV enc (s.xs ++ s.g)) 142),some (AO.map (mE iv s.m) s.ck)] 1101 (k12'.a ((k37' x).a ((k50' s x F).a k1')))) (VT.leaf (b' true) [some (AO.own (Md.pile (IU' s (It.mk x.a x.b x.c))) (pH (IU' s (It.mk x.a x.b x.c)))),none,none] 1101 (k12'.a ((k37' x).a ((k50' s x F).a ((k40' x).a (((p' (96 = 96 /\ 71 = 71 /\ Room s /\ PI s)).a ((vw' [AV.iface 96 (pt' 0 0),AV.iface 71 (AV.agg [z' x.a,z' x.b,z' x.c])]).a ((ow' (ce' [AV.slice 1001 0 s.xs.length 3 (Cp.lo (s.xs.length + s.g.length)),AV.map 1002] 170)).a ((p' (OW (ce' (rowV enc (s.xs ++ s.g)) 142) (ce' (AV.rens (QK' 0 1001 1002) (rowV enc (s.xs ++ s.g))) 142))).a (f' (OW (AO.map (mE iv s.m) s.ck) (AO.map (renE (QK' 0 1001 1002) (mE iv s.m)) s.ck))))))).a k1')))))) := χ
theorem VA' (x : It) (F : HP) : oRun [(EC', J1')] eF' [] D2' [.ptr 0 0, itA x] pL0 [0, 1001, 1002] F = VT.leaf (b' true) [some (AO.own (Md.pile (BA' EY' (It.mk x.a x.b x.c))) (pH (BA' EY' (It.mk x.a x.b x.c)))),none,none] 1101 (k12'.a ((k37' x).a (((p' (findKey Try.prog (env0 [(59,J1')] eF' [] F) 3 (z' x.b) [] 0 = AP.ret none)).a ((p' (i' 0 = i' 0)).a (f' (Wk (AV.tuple [i' 0,b' false]) (AV.tuple [i' 0,g']))))).a ((k40' x).a (((p' (96 = 96 /\ 71 = 71)).a ((vw' [AV.iface 96 (pt' 0 0),AV.iface 71 (AV.agg [z' x.a,z' x.b,z' x.c])]).a ((ow' (ce' [e',AV.map 1002] 170)).a (f' (OW (AO.map [] 0) (AO.map [] 0)))))).a k1'))))) := χ
abbrev k51' : Cnd := (p' ([i' 0,i' 0,i' 0] = [i' 0,i' 0,i' 0]))
theorem YH' (s : Ps) (F : HP) : oRun [(QX', SS' s)] AF' [] DN' [.ptr 0 0] (pL s) [0, 1001, 1002] F = VT.ite (↑s.xs.length == o' 0) (VT.leaf (AV.tuple [AV.agg [i' 0,i' 0,i' 0],b' false]) [some (ce' [AV.slice 1001 0 s.xs.length 3 (Cp.lo (s.xs.length + s.g.length)),AV.map 1002] 170),some (ce' (rowV enc (s.xs ++ s.g)) 142),some (AO.map (mE iv s.m) s.ck)] 1101 (h13' (tt'.a (k51'.a k1')))) (VT.leaf (AV.tuple [AV.agg [v' (vi' I' (E3' s).a),v' (vi' I' (E3' s).b),v' (vi' I' (E3' s).c)],b' true]) [some (AO.own (Md.pile (LF' s)) (pH (LF' s))),none,none] 1102 (k12'.a (((p' (96 = 96 /\ PI s /\ 0 < s.xs.length)).a ((vw' [AV.iface 96 (pt' 0 0)]).a ((ow' (ce' [AV.slice 1001 0 s.xs.length 3 (Cp.lo (s.xs.length + s.g.length)),AV.map 1002] 170)).a ((p' (OW (ce' (rowV enc (s.xs ++ s.g)) 142) (ce' (AV.rens (QK' 0 1001 1002) (rowV enc (s.xs ++ s.g))) 142))).a (f' (OW (AO.map (mE iv s.m) s.ck) (AO.map (renE (QK' 0 1001 1002) (mE iv s.m)) s.ck))))))).a (k12'.a ((ee' [v' (vi' I' (E3' s).a),v' (vi' I' (E3' s).b),v' (vi' I' (E3' s).c)]).a (h26' ((p' ([v' (vi' I' (E3' s).a),v' (vi' I' (E3' s).b),v' (vi' I' (E3' s).c)] = [v' (vi' I' (E3' s).a),v' (vi' I' (E3' s).b),v' (vi' I' (E3' s).c)])).a k1'))))))) := χ
theorem VB' (F : HP) : oRun [] AF' [] DN' [.ptr 0 0] pL0 [0, 1002] F = VT.ite true (VT.leaf (AV.tuple [AV.agg [i' 0,i' 0,i' 0],b' false]) [some (ce' [e',AV.map 1002] 170),some (AO.map [] 0)] 1101 (h13' (tt'.a (k51'.a k1')))) (VT.bad "a number below nought") := χ
end
theorem OD' (s : Ps) (j : Nat) (h : PI s) : PI (upS s j) /\ (upS s j).xs.length = s.xs.length := by
 induction j using Nat.strongRecOn generalizing s with
 | ind j ih =>
  rw [upS]; split
  ·exact ⟨h, rfl⟩
  ·split
   ·have := ih ((j - 1) / 2) ω _ (h.swap ((j - 1) / 2) j); exact ⟨this.1, this.2.trans (B3' _ _ _)⟩
   ·exact ⟨h, rfl⟩
theorem I3' (n : Nat) : ∀ (d : Nat) (s : Ps) (i : Nat), n - i <= d -> PI s -> PI (AQ' s i n).1 /\ (AQ' s i n).1.xs.length = s.xs.length := by
 intro d
 induction d with
 | zero =>
  intro s i hd h; rw [AQ', dif_pos ω]; exact ⟨h, rfl⟩
 | succ d ih =>
  intro s i hd h; rw [AQ']; split
  ·exact ⟨h, rfl⟩
  ·split
   ·have hj := HE' s i n; have := ih (AL' s i (BF' s i n)) (BF' s i n) ω (h.swap i (BF' s i n)); exact ⟨this.1, this.2.trans (B3' _ _ _)⟩
   ·exact ⟨h, rfl⟩
theorem EB' {ks : List Nat} {os : List (Option AO)} {u : AV} (hv : VW [u] (AV.rens (sg []) [v])) (ho : ∃ o1, getK ks os 0 = some o1 /\ OW o1 (o.ren (sg []))) : Fits ks [u] os [v] [(0, o)] := (HC' hv ho).fits rfl
theorem upL_ok (F : HP) : L1OK Θ F (DG' fUp) upL := by
 intro st W0 N h w tmps tmps' ax a h' n n' lg lg' c Q he hc r ha hf hK; unfold upL at he; split at he
 ·rename_i t i j rest; obtain ⟨o, ho, he⟩ := B1' he; split at he
  ·rename_i s hh; obtain ⟨c1, he2, rfl⟩ := AA' he; obtain ⟨⟨h1, h2, h3⟩, hc2⟩ := (Cnd.and_iff _ _).1 hc
   have hcl : ClosedC (upA j.toNat) [(0, pO s)] (anys 23) [(0, pO (upS s j.toNat))] := ⟨rfl, rfl, ⟨rfl, Ye, IZ' _ _⟩, (fun x hx => by simp only [List.mem_singleton] at hx; subst hx; trivial), IZ' _ _, fun x hx => by simp only [List.mem_singleton] at hx; subst hx; trivial⟩
   exact KO' B8' (bL' s j.toNat h3 h2) hcl he2 hc2 r ha hf hK
  ·exact (A1' he).elim
 ·exact (A1' he).elim
theorem ZR' (F : HP) : L1OK Θ F (DG' EG') TO' := by
 intro st W0 N h w tmps tmps' ax a h' n n' lg lg' c Q he hc r ha hf hK; unfold TO' at he; split at he
 ·rename_i t p i0 m x3 x4 x5 x6 i rest; obtain ⟨o, ho, he⟩ := B1' he; split at he
  ·rename_i s hh; obtain ⟨c1, he2, rfl⟩ := AA' he; obtain ⟨⟨h1, h2, h3, h4, h5, h6⟩, hc2⟩ := (Cnd.and_iff _ _).1 hc
   have hcl : ClosedC (G9' i0.toNat m.toNat i.toNat) [(0, pO s)] (G9' i0.toNat m.toNat (AQ' s i.toNat m.toNat).2) [(0, pO (AQ' s i.toNat m.toNat).1)] := ⟨rfl, rfl, ⟨rfl, Ye, Ye, Ye, Ye, Ye, Ye, Ye, IZ' _ _⟩, (fun x hx => by simp only [List.mem_singleton] at hx; subst hx; trivial), ⟨rfl, Ye, Ye, Ye, Ye, Ye, Ye, Ye, IZ' _ _⟩, fun x hx => by simp only [List.mem_singleton] at hx; subst hx; trivial⟩
   exact KO' B8' (WM' s i0.toNat m.toNat i.toNat h6 h4 h5) hcl he2 hc2 r ha hf hK
  ·exact (A1' he).elim
 ·exact (A1' he).elim
theorem up_tri (s : Ps) (j : Nat) (hP : PI s) (hj : j < s.xs.length) : Tri Θ default fUp [hI, iv (o' j)] [(0, pO s)] (.tuple []) [(0, pO (upS s j))] := by
 refine AK' (con := []) (hints := AF') (lc := [(fUp, 0, DG' fUp, upL)]) [0] rfl noC (fun x hx F => by simp only [List.mem_singleton] at hx; subst hx; exact upL_ok F) fun F => ?_
 rw [d6']; refine ⟨?_, EB' (Yb) ⟨_, rfl, Yc⟩⟩; refine ⟨rfl, ⟨Int.natCast_nonneg _, hj, hP⟩, VW.cons Ya (VW.cons Ya (J5' (n := 21) rfl)), Yc, Ye⟩
theorem ZQ' (s : Ps) (i n : Nat) (hP : PI s) (hn : n <= s.xs.length) (hi : i <= s.xs.length) : Tri Θ default EG' [hI, iv (o' i), iv (o' n)] [(0, pO s)] (.v (.bool (decide (i < (AQ' s i n).2)))) [(0, pO (AQ' s i n).1)] := by
 refine AK' (con := []) (hints := AF') (lc := [(EG', 2, DG' EG', TO')]) [0] rfl noC (fun x hx F => by simp only [List.mem_singleton] at hx; subst hx; exact ZR' F) fun F => ?_
 rw [VF']
 have e : decide (o' (AQ' s i n).snd > o' i) = decide (i < (AQ' s i n).2) := by
  simp only [Int.ofNat_eq_natCast, gt_iff_lt, Int.ofNat_lt]
 refine ⟨?_, EB' (by rw [e]; exact Yb) ⟨_, rfl, Yc⟩⟩; refine ⟨rfl, ⟨Int.natCast_nonneg _, Int.natCast_nonneg _, Int.natCast_nonneg _, hn, hi, hP⟩, VW.cons Ya (VW.cons Ya (VW.cons Ya (VW.cons (Wk.any _) (VW.cons (Wk.any _) (VW.cons (Wk.any _) (VW.cons (Wk.any _) (VW.cons Ya (J5' (n := 40) rfl)))))))), Yc, Ye⟩
theorem cUp_ok (F : HP) : C1OK Θ F fUp cUp := by
 intro st W0 N h w args vargs v h' n n' lg lg' c p hp he hc r ha hf; unfold cUp at hp; split at hp
 ·rename_i t i j; cases hp; obtain ⟨c0, he0, rfl⟩ := AA' he; obtain ⟨ht, hc0⟩ := (Cnd.and_iff _ _).1 hc; have ht' : t = 96 := ht; subst ht'; obtain ⟨m, lg1, he1⟩ := G4' he0; split at he1
  ·rename_i s; obtain ⟨c1, he2, rfl⟩ := AA' he1; obtain ⟨⟨h1, h2, h3⟩, hc2⟩ := (Cnd.and_iff _ _).1 hc0; obtain ⟨j, rfl⟩ := Int.eq_ofNat_of_zero_le h1; exact DW' (up_tri s j h3 h2) ⟨rfl, Ye, Ye⟩ ⟨Ye, Ye⟩ trivial he2 hc2 r ha hf
  ·exact (A1' he1).elim
 ·cases hp
theorem a5' (F : HP) : C1OK Θ F EG' f4' := by
 intro st W0 N h w args vargs v h' n n' lg lg' c p hp he hc r ha hf; unfold f4' at hp; split at hp
 ·rename_i t q i m; cases hp; obtain ⟨c0, he0, rfl⟩ := AA' he; obtain ⟨ht, hc0⟩ := (Cnd.and_iff _ _).1 hc; have ht' : t = 96 := ht; subst ht'; obtain ⟨md, lg1, he1⟩ := G4' he0; split at he1
  ·rename_i s; obtain ⟨c1, he2, rfl⟩ := AA' he1; obtain ⟨⟨h1, h2, h3, h4, h5⟩, hc2⟩ := (Cnd.and_iff _ _).1 hc0; obtain ⟨m, rfl⟩ := Int.eq_ofNat_of_zero_le h1; obtain ⟨i, rfl⟩ := Int.eq_ofNat_of_zero_le h2; exact DW' (ZQ' s i m h5 h3 h4) ⟨rfl, Ye, Ye, Ye⟩ ⟨Ye, Ye⟩ trivial he2 hc2 r ha hf
  ·exact (A1' he1).elim
 ·cases hp
theorem R1' : ∀ x ∈ conH, ∀ F, C1OK Θ F x.1 x.2 := by
 intro x hx F
 rcases List.mem_cons.1 hx with rfl | hx
 ·exact cUp_ok F
 rcases List.mem_cons.1 hx with rfl | hx
 ·exact a5' F
 exact R0' x hx F
theorem SB' (s : Ps) (x : It) : (BA' s x).xs.length = s.xs.length + 1 := by simp [BA']
theorem PI.push {s : Ps} (h : PI s) (hR : Room s) (x : It) : PI (BA' s x) := ⟨h.m.mset _ _, by rw [SB']; exact hR⟩
theorem W2' (s : Ps) (x : It) (hP : PI s) (hR : Room s) : Tri Θ default EC' [hI, itF x] [(0, pO s)] (.tuple []) [(0, pO (IU' s x))] := by
 refine AK' (con := conH) (hints := AN' [(EC', 1, 3, hv (iv (o' s.xs.length)))]) (lc := []) [0] rfl R1' noL fun F => ?_
 rw [VD']
 have hl : (s.xs ++ [x]).length = s.xs.length + 1 := by simp
 have hb := hP.big
 have hw : IntKind.i64.wrap (o' (s.xs ++ [x]).length - o' 1) = o' s.xs.length := by
  rw [hl, IntWalk.i64_in _ (by simp only [Z0]; omega)]; simp only [Z0]; omega
 refine ⟨?_, EB' (Yb) ⟨_, rfl, Yc⟩⟩; refine ⟨⟨rfl, hR, Yb, Yc, Ye⟩, ⟨Yb, Yc, Ye⟩, ⟨AY' hw, Ye⟩, ⟨rfl, ⟨Int.natCast_nonneg _, ?_, hP.push hR x⟩, Yb, Yc, Ye⟩, Ye⟩; show s.xs.length < (s.xs ++ [x]).length; omega
theorem RU' (s : Ps) : upS s 0 = s := by rw [upS, dif_pos rfl]
theorem TI' (x : It) : Tri Θ default EC' [hI, itF x] [(0, pO0)] (.tuple []) [(0, pO (BA' EY' x))] := by
 refine AK' (con := conH) (hints := AN' [(EC', 1, 3, hv (iv (o' 0)))]) (lc := []) [0] rfl R1' noL fun F => ?_
 rw [T9']
 have hP : PI (BA' EY' x) := PI.push (s := EY') ⟨MI.nil, by show 0 * 24 <= _; omega⟩ (by show (0 + 1) * 24 <= _; omega) x
 refine ⟨?_, EB' (Yb) ⟨_, rfl, OW.of_eq ?_⟩⟩
 ·simp only [ch']; and_intros; all_goals first | exact Ye | exact Yb | exact Yc | exact Ya | exact hP | rfl | decide
 ·show pO (upS (BA' EY' x) 0) = pO (BA' EY' x); rw [RU']
theorem ZF' (s : Ps) (hP : PI s) (h0 : 0 < s.xs.length) : Tri Θ default QX' [hI] [(0, pO s)] (itF (E3' s)) [(0, pO (LF' s))] := by
 refine AK' (con := conH) (hints := AN' [(QX', 1, 2, hv (iv (o' (s.xs.length - 1))))]) (lc := []) [0] rfl R1' noL fun F => ?_
 rw [YJ']; have hb := hP.big
 have hw : IntKind.i64.wrap (o' s.xs.length - o' 1) = o' (s.xs.length - 1) := by
  rw [IntWalk.i64_in _ (by simp only [Z0]; omega)]; simp only [Z0]; omega
 have hsl := B3' s 0 (s.xs.length - 1); obtain ⟨hd1, hd2⟩ := I3' (s.xs.length - 1) _ (AL' s 0 (s.xs.length - 1)) 0 (Yd) (hP.swap 0 (s.xs.length - 1)); refine ⟨?_, EB' (Yb) ⟨_, rfl, Yc⟩⟩
 simp only [ch']; and_intros; all_goals first | exact Ye | exact Yb | exact Yc | exact AY' hw | exact hP.m | exact hP.swap _ _ | rfl | exact h0 | exact Int.natCast_nonneg _ | (show s.xs.length - 1 < _; omega) | (show s.xs.length - 1 <= (AL' s 0 (s.xs.length - 1)).xs.length; omega) | exact Nat.zero_le _ | (show 0 < (AQ' (AL' s 0 (s.xs.length - 1)) 0 (s.xs.length - 1)).1.xs.length; omega) | (show (AQ' (AL' s 0 (s.xs.length - 1)) 0 (s.xs.length - 1)).1.xs.length <= _; omega) | decide
theorem KR' (s : Ps) (hc : AV.cls (fun i => Nat.blt i 1000) vs) : Goes vs (pL s) vs [(0, pO s)] := by
 have := Goes.shut (σ := Unit) (R := fun _ => True) (L := fun _ => pL s) (m := .pile s) (H0 := []) (vs := vs) () trivial rfl ⟨_, _, rfl, rfl⟩ (by
  have e : (fun i => Nat.blt i 1000 || (getO ([] : LH) i).isSome) = fun i => Nat.blt i 1000 := by funext i; simp [getO]
  rw [e]; exact hc) (fun x hx => by cases hx)
 rwa [List.append_nil] at this
theorem MH' (hc : AV.cls (fun i => Nat.blt i 1000) vs) : Goes vs pL0 vs [(0, pO0)] := by
 have := Goes.shut (σ := Unit) (R := fun _ => True) (L := fun _ => pL0) (m := .pile0) (H0 := []) (vs := vs) () trivial rfl ⟨_, _, rfl, rfl⟩ (by
  have e : (fun i => Nat.blt i 1000 || (getO ([] : LH) i).isSome) = fun i => Nat.blt i 1000 := by funext i; simp [getO]
  rw [e]; exact hc) (fun x hx => by cases hx)
 rwa [List.append_nil] at this
theorem WV' (K : Nat -> Bool) : ∀ m : IMap Int, clE K (mE iv m)
 | [] => trivial
 | e :: m => ⟨Ye, Ye, WV' K m⟩
theorem WT' {s : Ps} (ha : AV.cls (kH (pL s)) A) (hv : AV.cls (kR (pL s) [(0, o)]) [v]) (ho : o.cl (kR (pL s) [(0, o)])) : ClosedC A (pL s) [v] [(0, o)] := by
 refine ⟨rfl, rfl, ha, fun x hx => ?_, hv, fun x hx => by simp only [List.mem_singleton] at hx; subst hx; exact ho⟩
 simp only [pL, List.mem_cons, List.not_mem_nil, or_false] at hx
 rcases hx with rfl | rfl | rfl
 ·exact ⟨rfl, rfl, Ye⟩
 ·exact DP' _ _
 ·exact WV' _ _
theorem TT' (s : Ps) (F : HP) : C1OK Θ F EC' (LT' s) := by
 intro st W0 N h w args vargs v h' n n' lg lg' c p hp he hc r ha hf; unfold LT' at hp; split at hp
 ·rename_i t i t' a b c; cases hp; obtain ⟨c0, he0, rfl⟩ := AA' he; obtain ⟨⟨rfl, rfl, hR, hP⟩, hc0⟩ := (Cnd.and_iff _ _).1 hc; obtain ⟨o, ho, he1⟩ := B1' he0; split at he1
  ·exact DR' B8' (Tri.pre (KR' s (vs := [hI, itF ⟨a, b, c⟩]) ⟨rfl, ⟨Ye, Ye, Ye, Ye⟩, Ye⟩) (W2' s ⟨a, b, c⟩ hP hR)) rfl (WT' (s := s) (A := [hI, itF ⟨a, b, c⟩]) (v := .tuple []) (o := pO (IU' s ⟨a, b, c⟩)) ⟨rfl, ⟨Ye, Ye, Ye, Ye⟩, Ye⟩ ⟨Ye, Ye⟩ trivial) he1 hc0 r ha hf
  ·exact (A1' he1).elim
 ·cases hp
theorem R7' (F : HP) : C1OK Θ F EC' J1' := by
 intro st W0 N h w args vargs v h' n n' lg lg' c p hp he hc r ha hf; unfold J1' at hp; split at hp
 ·rename_i t i t' a b c; cases hp; obtain ⟨c0, he0, rfl⟩ := AA' he; obtain ⟨⟨rfl, rfl⟩, hc0⟩ := (Cnd.and_iff _ _).1 hc; obtain ⟨o, ho, he1⟩ := B1' he0; split at he1
  ·have hcl : ClosedC [hI, itF ⟨a, b, c⟩] pL0 [.tuple []] [(0, pO (BA' EY' ⟨a, b, c⟩))] := by
    refine ⟨rfl, rfl, ⟨rfl, ⟨Ye, Ye, Ye, Ye⟩, Ye⟩, fun x hx => ?_, ⟨Ye, Ye⟩, fun x hx => by simp only [List.mem_singleton] at hx; subst hx; trivial⟩
    simp only [pL0, List.mem_cons, List.not_mem_nil, or_false] at hx
    rcases hx with rfl | rfl
    ·exact ⟨Ye, rfl, Ye⟩
    ·exact Ye
   exact DR' B8' (Tri.pre (MH' (vs := [hI, itF ⟨a, b, c⟩]) ⟨rfl, ⟨Ye, Ye, Ye, Ye⟩, Ye⟩) (TI' ⟨a, b, c⟩)) rfl hcl he1 hc0 r ha hf
  ·exact (A1' he1).elim
 ·cases hp
theorem WY' (s : Ps) (F : HP) : C1OK Θ F QX' (SS' s) := by
 intro st W0 N h w args vargs v h' n n' lg lg' c p hp he hc r ha hf; unfold SS' at hp; split at hp
 ·rename_i t i; cases hp; obtain ⟨c0, he0, rfl⟩ := AA' he; obtain ⟨⟨rfl, hP, h0⟩, hc0⟩ := (Cnd.and_iff _ _).1 hc; obtain ⟨o, ho, he1⟩ := B1' he0; split at he1
  ·exact DR' B8' (Tri.pre (KR' s (vs := [hI]) ⟨rfl, Ye⟩) (ZF' s hP h0)) rfl (WT' (s := s) (A := [hI]) (v := itF (E3' s)) (o := pO (LF' s)) ⟨rfl, Ye⟩ ⟨⟨Ye, Ye, Ye, Ye⟩, Ye⟩ trivial) he1 hc0 r ha hf
  ·exact (A1' he1).elim
 ·cases hp
theorem P0' {g : List AV -> Option (AP AV)} (h : ∀ F, C1OK Θ F f g) : ∀ x ∈ [(f, g)], ∀ F, C1OK Θ F x.1 x.2 := fun x hx F => by simp only [List.mem_singleton] at hx; subst hx; exact h F
theorem e9' : Tri Θ default fNew [] [] (.ptr 1000 0) [(1000, pO0)] := by
 refine AK' (con := []) (hints := AF') (lc := []) [1100, 1101] rfl noC noL fun F => ?_
 rw [QL']; refine ⟨Ye, [.ptr 1000 0], renL 1000 pL0, [(1000, 1101), (1002, 1100)], rfl, B2' _ χ χ (Yb) ⟨⟨_, rfl, Yc⟩, ⟨_, rfl, Yc⟩, Ye⟩, ?_⟩
 exact Goes.shutNew (σ := Unit) (R := fun _ => True) (L := fun _ => pL0) (m := .pile0) 1000 ⟨δ, by decide⟩ () trivial rfl rfl ⟨_, _, rfl, rfl⟩ ⟨rfl, Ye⟩
theorem Z9' (s : Ps) : Tri Θ default DO' [.ptr 0 0] [(0, pO s)] (iv (o' s.xs.length)) [(0, pO s)] := by
 refine CK' (AK' (con := []) (hints := AF') (lc := []) [0, 1001, 1002] rfl noC noL fun F => ?_); rw [YI']; exact ⟨by simp only [ch', and_self], CN' s [(1001, 1001), (1002, 1002)] χ χ (Yb) ⟨Ye, Ye⟩ (CL' s rfl rfl rfl rfl rfl rfl)⟩
theorem VV' : Tri Θ default DO' [.ptr 0 0] [(0, pO0)] (iv (o' 0)) [(0, pO0)] := by
 refine DQ' (AK' (con := []) (hints := AF') (lc := []) [0, 1002] rfl noC noL fun F => ?_); rw [VC']; exact ⟨by simp only [ch', and_self], HB' [(1002, 1002)] χ χ (Yb) ⟨Ye, Ye⟩ ⟨⟨_, rfl, Yc⟩, ⟨_, rfl, Yc⟩, Ye⟩⟩
def isIn (k : Int) (s : Ps) : Bool := (AG' k s.m).isSome
def putS (s : Ps) (x : It) : Ps := match isIn x.b s with
 | true => s
 | false => IU' s x
theorem Z8' (k : Int) (m : IMap Int) : BY' (AR' (.v (.int .i64 k)) (mE iv m) 0) (.int .i64 (o' 0)) = iv (L9' k m) := by
 rw [NM', L9']
 cases AG' k m <;> rfl
theorem Z6' (s : Ps) (x : It) (hP : PI s) (hR : Room s) : Tri Θ default D2' [.ptr 0 0, itA x] [(0, pO s)] (.v (.bool (!isIn x.b s))) [(0, pO (putS s x))] := by
 refine CK' (AK' (con := [(EC', LT' s)]) (hints := hPut s x) (lc := []) [0, 1001, 1002] rfl (P0' (TT' s)) noL fun F => ?_); rw [YG']; have e1 := Z8' x.b s.m; have e2 := PF' (ev := iv) x.b s.m
 have e3 : Wk (AV.tuple [v' (vi' I' (BY' (AR' (.v (.int .i64 x.b)) (mE iv s.m) 0) (.int .i64 (o' 0))).intOf), v' (vb' (AR' (v' (vi' I' x.b)) (mE iv s.m) 0).isSome)]) (AV.tuple [v' (vi' I' (L9' x.b s.m)), v' (vb' (AG' x.b s.m).isSome)]) := by
  refine Wk.of_eq ?_; rw [e1, e2]; rfl
 refine ⟨fun h1 => ⟨?_, ?_⟩, fun h1 => ⟨?_, ?_⟩⟩
 ·simp only [ch']; and_intros; all_goals first | exact Ye | exact AS' intT _ _ _ | exact e3 | (rw [e1]; rfl) | rfl
 ·have hi : isIn x.b s = true := h1
  have hp : putS s x = s := by rw [putS, hi]
  rw [hi, hp]; exact CN' s [(1001, 1001), (1002, 1002)] χ χ (Yb) ⟨Ye, Ye⟩ (CL' s rfl rfl rfl rfl rfl rfl)
 ·simp only [ch']; and_intros; all_goals first | exact Ye | exact AS' intT _ _ _ | exact e3 | exact hR | exact hP | exact Yb | exact Yc | exact OW.of_eq (by rw [BG']) | exact OW.of_eq (by rw [NG']) | (rw [e1]; rfl) | rfl
 ·have hi : isIn x.b s = false := h1
  have hp : putS s x = IU' s x := by rw [putS, hi]
  rw [hi, hp]; exact EB' (Yb) ⟨_, rfl, Yc⟩
theorem VR' (x : It) : Tri Θ default D2' [.ptr 0 0, itA x] [(0, pO0)] (.v (.bool true)) [(0, pO (BA' EY' x))] := by
 refine DQ' (AK' (con := [(EC', J1')]) (hints := eF') (lc := []) [0, 1001, 1002] rfl (P0' R7') noL fun F => ?_); rw [VA']
 have e3 : Wk (AV.tuple [v' (vi' I' (o' 0)), v' (vb' false)]) (AV.tuple [v' (vi' I' (o' 0)), AV.lit false]) := by
  intro N y hy; simp only [VR, VRs] at hy ⊢; exact hy
 refine ⟨?_, EB' (Yb) ⟨_, rfl, Yc⟩⟩
 simp only [ch']; and_intros; all_goals first | exact Ye | exact e3 | exact Yb | exact Yc | rfl
def VT' (s : Ps) : Ps := if s.xs.length = 0 then s else LF' s
def VS' (s : Ps) : It := if s.xs.length = 0 then It.zero else E3' s
theorem Z7' (s : Ps) (hP : PI s) : Tri Θ default DN' [.ptr 0 0] [(0, pO s)] (.tuple [itA (VS' s), .v (.bool (!decide (s.xs.length = 0)))]) [(0, pO (VT' s))] := by
 refine CK' (AK' (con := [(QX', SS' s)]) (hints := AF') (lc := []) [0, 1001, 1002] rfl (P0' (WY' s)) noL fun F => ?_); rw [YH']
 have hz : ((s.xs.length : Int) == o' 0) = decide (s.xs.length = 0) := by
  by_cases h : s.xs.length = 0
  ·rw [h]; rfl
  ·simp only [h, decide_false]; apply beq_eq_false_iff_ne.2; simp only [Z0]; omega
 rw [hz]
 refine ⟨fun h1 => ⟨?_, ?_⟩, fun h1 => ⟨?_, ?_⟩⟩
 ·simp only [ch']; and_intros; all_goals first | exact Ye | rfl
 ·simp only [decide_eq_true_eq] at h1; have e1 : VS' s = It.zero := if_pos h1; have e2 : VT' s = s := if_pos h1
  have e3 : (!decide (s.xs.length = 0)) = false := by rw [decide_eq_true h1]; rfl
  rw [e1, e2, e3]; exact CN' s [(1001, 1001), (1002, 1002)] χ χ (Yb) ⟨⟨⟨Ye, Ye, Ye, Ye⟩, Ye, Ye⟩, Ye⟩ (CL' s rfl rfl rfl rfl rfl rfl)
 ·simp only [decide_eq_false_iff_not] at h1
  simp only [ch']; and_intros; all_goals first | exact Ye | exact hP | exact Yb | exact Yc | exact OW.of_eq (by rw [BG']) | exact OW.of_eq (by rw [NG']) | omega | rfl
 ·simp only [decide_eq_false_iff_not] at h1; have e1 : VS' s = E3' s := if_neg h1; have e2 : VT' s = LF' s := if_neg h1; have e3 : decide (s.xs.length = 0) = false := decide_eq_false h1; rw [e1, e2, e3]; exact EB' (Yb) ⟨_, rfl, Yc⟩
theorem VU' : Tri Θ default DN' [.ptr 0 0] [(0, pO0)] (.tuple [itA It.zero, .v (.bool false)]) [(0, pO0)] := by
 refine DQ' (AK' (con := []) (hints := AF') (lc := []) [0, 1002] rfl noC noL fun F => ?_); rw [VB']
 refine ⟨fun _ => ⟨?_, HB' [(1002, 1002)] χ χ (Yb) ⟨⟨⟨Ye, Ye, Ye, Ye⟩, Ye, Ye⟩, Ye⟩ ⟨⟨_, rfl, Yc⟩, ⟨_, rfl, Yc⟩, Ye⟩⟩, fun h => by cases h⟩
 simp only [ch']; and_intros; all_goals first | exact Ye | rfl
def ins (x : It) : List It -> List It
 | [] => [x]
 | y :: l => if ahead x y = true then x :: y :: l else y :: ins x l
theorem ins_perm (x : It) : ∀ l, (ins x l).Perm (x :: l)
 | [] => List.Perm.refl _
 | y :: l => by
  rw [ins]; split
  ·exact List.Perm.refl _
  ·exact ((ins_perm x l).cons y).trans (List.Perm.swap x y l)
abbrev Sortd (L : List It) : Prop := L.Pairwise (fun a b => ahead a b = true)
theorem ins_sorted {x : It} : ∀ {L : List It}, Sortd L -> (∀ y ∈ L, y.b ≠ x.b) -> Sortd (ins x L)
 | [], _, _ => List.pairwise_singleton _ _
 | y :: l, h, hb => by
  rw [ins]; obtain ⟨h1, h2⟩ := List.pairwise_cons.1 h; split
  ·rename_i ha
   refine List.pairwise_cons.2 ⟨fun z hz => ?_, h⟩
   rcases List.mem_cons.1 hz with rfl | hz
   ·exact ha
   ·exact ahead_trans ha (h1 z hz)
  ·rename_i ha
   refine List.pairwise_cons.2 ⟨fun z hz => ?_, ins_sorted h2 fun z hz => hb z (List.mem_cons_of_mem _ hz)⟩
   rcases List.mem_cons.1 ((ins_perm x l).subset hz) with rfl | hz
   ·exact RD' (show nb y z by rw [nb]; simpa using ha) (hb y ms')
   ·exact h1 z hz
structure AbsS (s : Ps) (L : List It) : Prop where
 pi : PI s
 map : JR' s
 heap : HX' (at' s) s.xs.length
 perm : L.Perm s.xs
 sorted : Sortd L
theorem AbsS.len {s : Ps} {L : List It} (h : AbsS s L) : s.xs.length = L.length := h.perm.length_eq.symm
theorem JW' {s : Ps} {x : It} : x ∈ s.xs ↔ ∃ i, i < s.xs.length /\ at' s i = x := by
 rw [List.mem_iff_getElem]
 constructor
 ·rintro ⟨i, hi, h⟩; exact ⟨i, hi, (MW' s i hi).trans h⟩
 ·rintro ⟨i, hi, h⟩; exact ⟨i, hi, (MW' s i hi).symm.trans h⟩
theorem AbsS.isIn {s : Ps} {L : List It} (h : AbsS s L) (k : Int) : isIn k s = L.any fun y => y.b == k := by
 rw [Bool.eq_iff_iff, List.any_eq_true]; unfold Rk.isIn; rw [Option.isSome_iff_exists]
 constructor
 ·rintro ⟨v, hv⟩; obtain ⟨i, hi, hb, _⟩ := (h.map k v).1 hv
  exact ⟨at' s i, h.perm.mem_iff.2 (JW'.2 ⟨i, hi, rfl⟩), by simp [hb]⟩
 ·rintro ⟨y, hy, hb⟩; obtain ⟨i, hi, rfl⟩ := JW'.1 (h.perm.mem_iff.1 hy)
  exact ⟨i, (h.map k i).2 ⟨i, hi, by simpa using hb, rfl⟩⟩
theorem JG' (s : Ps) (x : It) (i : Nat) : at' (BA' s x) i = if i < s.xs.length then at' s i else if i = s.xs.length then x else It.zero := by
 simp only [at', BA', List.getD]
 by_cases h : i < s.xs.length
 ·rw [if_pos h, List.getElem?_append_left h]
 ·rw [if_neg h, List.getElem?_append_right ω]
  by_cases h2 : i = s.xs.length
  ·rw [if_pos h2, h2, Nat.sub_self]; rfl
  ·rw [if_neg h2, List.getElem?_eq_none (by simp; omega)]; rfl
theorem AbsS.push {s : Ps} {L : List It} (h : AbsS s L) (hR : Room s) (x : It) (hx : Rk.isIn x.b s = false) : AbsS (IU' s x) (ins x L) := by
 have hP := h.pi.push hR x; have hlen := SB' s x
 have hnew : ∀ i, i < s.xs.length -> (at' s i).b ≠ x.b := by
  intro i hi e; have := (h.map x.b i).2 ⟨i, hi, e, rfl⟩; unfold Rk.isIn at hx; rw [this] at hx; cases hx
 have hm : JR' (BA' s x) := by
  intro k v; show AG' k (mset s.m s.ck x.b s.xs.length) = some v ↔ _; rw [CT', hlen]
  by_cases hk : k = x.b
  ·rw [if_pos hk]
   constructor
   ·intro e
    refine ⟨s.xs.length, by omega, ?_, (Option.some.inj e).symm⟩
    rw [JG', if_neg ω, if_pos rfl, hk]
   ·rintro ⟨i, hi, hb, rfl⟩; rw [JG'] at hb; split at hb
    ·rename_i hlt; exact absurd (hb.trans hk) (hnew i hlt)
    ·rw [show i = s.xs.length by omega]
  ·rw [if_neg hk, h.map k v]
   constructor
   ·rintro ⟨i, hi, hb, hv⟩
    exact ⟨i, by omega, by rw [JG', if_pos hi]; exact hb, hv⟩
   ·rintro ⟨i, hi, hb, hv⟩; rw [JG'] at hb; split at hb
    ·rename_i hlt; exact ⟨i, hlt, hb, hv⟩
    ·rw [if_pos ω] at hb; exact absurd hb.symm hk
 have hup : LY' (at' (BA' s x)) (BA' s x).xs.length s.xs.length := by
  rw [hlen]
  refine ⟨fun c hc hcn hne => ?_, fun c hc hcn e _ => ω⟩
  rw [JG', JG', if_pos ω, if_pos ω]; exact h.heap c hc ω
 obtain ⟨q1, q2⟩ := bM' s.xs.length (BA' s x) ω hup; obtain ⟨k1, k2⟩ := OD' (BA' s x) s.xs.length hP
 refine ⟨k1, aC' _ _ ω hm, by show HX' (at' (upS _ _)) (upS _ _).xs.length; rw [k2]; exact q1, ?_, ins_sorted h.sorted fun y hy => ?_⟩
 ·refine (ins_perm x L).trans ?_; refine ((h.perm.cons x).trans ?_).trans q2.symm; show (x :: s.xs).Perm (s.xs ++ [x]); exact (List.perm_append_comm (l₁ := [x]) (l₂ := s.xs))
 ·obtain ⟨i, hi, rfl⟩ := JW'.1 (h.perm.mem_iff.1 hy); exact hnew i hi
theorem AbsS.empty : AbsS EY' [] := ⟨⟨MI.nil, by show 0 * 24 <= _; omega⟩, (fun k v => by
 show AG' k [] = some v ↔ _
 constructor
 ·intro h; cases h
 ·rintro ⟨i, hi, _⟩; cases hi), (fun c hc hcn => by cases hcn), List.Perm.refl _, List.Pairwise.nil⟩
theorem LN' (s : Ps) (k : Nat) (hk : k < s.xs.length - 1) : at' (popS s) k = at' s k := by
 show s.xs.dropLast.getD k It.zero = s.xs.getD k It.zero; rw [List.getD, List.getD, List.getElem?_dropLast, if_pos hk]
theorem AbsS.pop {s : Ps} {x : It} {L : List It} (h : AbsS s (x :: L)) : E3' s = x /\ AbsS (LF' s) L := by
 have hn : s.xs.length = L.length + 1 := h.len
 have h0 : 0 < s.xs.length := ω
 have hlast : s.xs.length - 1 < s.xs.length := ω
 have hsl := B3' s 0 (s.xs.length - 1)
 have hf : at' (AL' s 0 (s.xs.length - 1)) = BT' (at' s) 0 (s.xs.length - 1) := funext fun k => DD' s _ _ k h0 hlast
 have hdown : HL' (at' (AL' s 0 (s.xs.length - 1))) (s.xs.length - 1) 0 := by
  rw [hf]
  refine ⟨fun c hc hcn hne => ?_, fun c _ _ _ h0' => ω⟩
  rw [BT', if_neg ω, if_neg hne, BT', if_neg ω, if_neg ω]; exact h.heap c hc ω
 obtain ⟨q1, q2, q3⟩ := PL' (s.xs.length - 1) _ (AL' s 0 (s.xs.length - 1)) 0 (Yd) ω hdown; obtain ⟨k1, k2⟩ := I3' (s.xs.length - 1) _ (AL' s 0 (s.xs.length - 1)) 0 (Yd) (h.pi.swap 0 (s.xs.length - 1)); have hDlen : (E4' s).xs.length = s.xs.length := k2.trans hsl; have hmap : JR' (E4' s) := SN' _ _ _ _ (Yd) ω (h.map.swap h0 hlast)
 have hroot : at' (E4' s) (s.xs.length - 1) = at' s 0 := by
  show at' (AQ' _ _ _).1 _ = _; rw [q3 _ (Yd), hf, BT', if_pos rfl]
 have hx : at' s 0 = x := by
  have hm : at' s 0 ∈ x :: L := h.perm.mem_iff.2 (JW'.2 ⟨0, h0, rfl⟩)
  rcases List.mem_cons.1 hm with e | e
  ·exact e
  ·have h1 := (List.pairwise_cons.1 h.sorted).1 _ e; obtain ⟨i, hi, hxi⟩ := JW'.1 (h.perm.mem_iff.1 (ms' (a := x) (l := L))); have h2 := W5' h.heap i hi; rw [hxi, nb, h1] at h2; cases h2
 have hlastD : at' (E4' s) ((E4' s).xs.length - 1) = x := by rw [hDlen, hroot, hx]
 refine ⟨hlastD, ?_⟩
 have hpl : (LF' s).xs.length = s.xs.length - 1 := by
  show (E4' s).xs.dropLast.length = _; rw [List.length_dropLast, hDlen]
 have hat : ∀ k, k < s.xs.length - 1 -> at' (LF' s) k = at' (E4' s) k := fun k hk => LN' _ _ (by rw [hDlen]; exact hk)
 refine ⟨⟨k1.m.mdel _, by have := k1.big; rw [hpl]; have e : (AQ' (AL' s 0 (s.xs.length - 1)) 0 (s.xs.length - 1)).1.xs.length = s.xs.length := hDlen; omega⟩, ?_, ?_, ?_, (List.pairwise_cons.1 h.sorted).2⟩
 ·intro k v; show AG' k (mdel (E4' s).m (at' (E4' s) ((E4' s).xs.length - 1)).b) = some v ↔ _; have hDm : MI (E4' s).m (E4' s).ck := k1.m; rw [D5' hDm, hpl, hDlen]
  by_cases hk : k = (at' (E4' s) (s.xs.length - 1)).b
  ·rw [if_pos hk]
   constructor
   ·intro e; cases e
   ·rintro ⟨i, hi, hb, _⟩; rw [hat i hi] at hb; have := hmap.inj (i := i) (j := s.xs.length - 1) (by rw [hDlen]; omega) (by rw [hDlen]; omega) (hb.trans hk); omega
  ·rw [if_neg hk, hmap k v, hDlen]
   constructor
   ·rintro ⟨i, hi, hb, hv⟩
    have hne : i ≠ s.xs.length - 1 := fun e => hk (by rw [<- hb, e])
    exact ⟨i, by omega, by rw [hat i ω]; exact hb, hv⟩
   ·rintro ⟨i, hi, hb, hv⟩
    exact ⟨i, by omega, by rw [<- hat i hi]; exact hb, hv⟩
 ·rw [hpl]; intro c hc hcn; rw [hat c hcn, hat _ ω]; exact q1 c hc hcn
 ·have hp : (x :: L).Perm (E4' s).xs := h.perm.trans ((q2.trans (EK' s 0 (s.xs.length - 1) h0 hlast)).symm)
  have hne : (E4' s).xs ≠ [] := fun e => by rw [e] at hDlen; simp only [List.length_nil] at hDlen; omega
  have hl : (E4' s).xs.getLast hne = x := by
   rw [List.getLast_eq_getElem, <- hlastD, MW' _ _ (by rw [hDlen]; exact hlast)]
  have hsplit : (E4' s).xs = (E4' s).xs.dropLast ++ [x] := by rw [<- hl]; exact (List.dropLast_concat_getLast hne).symm
  rw [hsplit] at hp; have := hp.trans (List.perm_append_comm (l₁ := (E4' s).xs.dropLast) (l₂ := [x])); exact (List.perm_cons x).1 this
def Abs : Option Ps -> List It -> Prop
 | none, L => L = []
 | some s, L => AbsS s L
def pLO : Option Ps -> LH
 | none => pL0
 | some s => pL s
def lH (L : List It) : Nat -> Nat -> HP := exHP (fun o : Option Ps => Abs o L) pLO
def lO (L : List It) : AO := .own (.line L) (lH L)
theorem GU' {s : Ps} {L : List It} (h : AbsS s L) : OW (pO s) (lO L) := fun N i D w ⟨l, h1, h2, _, _, h3⟩ => ⟨l, h1, h2, some s, h, h3⟩
theorem KE' : OW pO0 (lO []) := fun N i D w ⟨l, h1, h2, _, _, h3⟩ => ⟨l, h1, h2, none, rfl, h3⟩
theorem CH' {o' : AO} (hi : i < 1100) (h : OW o o') : Goes vs [(i, o)] vs [(i, o')] := by
 intro W0 F N ys w ⟨N', g1, g2, r, hv⟩
 have hlim : i < T.limit := by have : T.limit = 1048576 := rfl; omega
 have hf : ∀ (a : AO) j b, (AD' [(i, a)]).find j = some b -> j = i /\ b = a := by
  intro a j b hj; rw [A8' (by simp only [A6', List.all_cons, List.all_nil, Bool.and_true, Nat.blt_eq]; exact hlim), getO] at hj; split at hj
  ·rename_i e; cases hj; exact ⟨e, rfl⟩
  ·cases hj
 have hf2 : (AD' [(i, o)]).find i = some o := by
  rw [A8' (by simp only [A6', List.all_cons, List.all_nil, Bool.and_true, Nat.blt_eq]; exact hlim), getO, if_pos rfl]
 refine ⟨N', g1, fun j hj hg => g2 j hj ?_, ?_, hv⟩
 ·rw [getO] at hg ⊢; split at hg
  ·cases hg
  ·rename_i e; rw [if_neg e]; rfl
 ·obtain ⟨D0, D, h1, h2, h3⟩ := r.sat
  refine ⟨r.os, r.tape, r.output, D0, D, h1, fun j b hj => ?_, fun j k b b' hj hk hjk => ?_⟩
  ·obtain ⟨rfl, rfl⟩ := hf _ j b hj; exact ⟨h _ _ _ _ (h2 j o hf2).1, (h2 j o hf2).2⟩
  ·exact (hjk ((hf _ j b hj).1.trans (hf _ k b' hk).1.symm)).elim
theorem GW' {L : List It} {H' : LH} (hA : AV.cls (fun i => Nat.blt i 1000) A) (h1 : ∀ s, AbsS s L -> Tri Θ default f A [(0, pO s)] v H') (h0 : L = [] -> Tri Θ default f A [(0, pO0)] v H') : Tri Θ default f A [(0, lO L)] v H' := by
 refine Tri.open (σ := Option Ps) (R := fun o => Abs o L) (L := pLO) (H0 := []) (fun o => by cases o <;> rfl) (fun o x hx => ?_) (fun o => by cases o <;> exact ⟨_, rfl⟩) (fun o ho => ?_)
 ·cases o with
  | none =>
   have hx : x ∈ pL0 := hx; simp only [pL0, List.mem_cons, List.not_mem_nil, or_false] at hx
   rcases hx with rfl | rfl
   ·exact ⟨Ye, rfl, Ye⟩
   ·exact Ye
  | some s =>
   have hx : x ∈ pL s := hx; simp only [pL, List.mem_cons, List.not_mem_nil, or_false] at hx
   rcases hx with rfl | rfl | rfl
   ·exact ⟨rfl, rfl, Ye⟩
   ·exact DP' _ _
   ·exact WV' _ _
 ·rw [List.append_nil]
  cases o with
  | none => exact Tri.pre (MH' hA) (h0 ho)
  | some s => exact Tri.pre (KR' s hA) (h1 s ho)
def BZ' (k : Int) (L : List It) : Bool := L.any fun y => y.b == k
def putL (L : List It) (x : It) : List It := match BZ' x.b L with
 | true => L
 | false => ins x L
def JQ' (L : List It) : Prop := (L.length + 1) * 24 <= 140737488355328
theorem Aput_tri (L : List It) (x : It) (hR : JQ' L) : Tri Θ default D2' [.ptr 0 0, itA x] [(0, lO L)] (.v (.bool (!BZ' x.b L))) [(0, lO (putL L x))] := by
 refine GW' ⟨rfl, ⟨Ye, Ye, Ye, Ye⟩, Ye⟩ (fun s hs => ?_) (fun e => ?_)
 ·have hR' : Room s := by unfold Room; rw [hs.len]; exact hR
  have e1 := hs.isIn x.b; have ht := Z6' s x hs.pi hR'; rw [e1] at ht; refine Tri.post ht (CH' δ ?_)
  cases hb : BZ' x.b L with
  | true =>
   have : isIn x.b s = true := e1.trans hb; rw [putL, hb, putS, this]; exact GU' hs
  | false =>
   have : isIn x.b s = false := e1.trans hb; rw [putL, hb, putS, this]; exact GU' (hs.push hR' x this)
 ·subst e; refine Tri.post (VR' x) (CH' δ ?_); have := AbsS.empty.push (by show (0 + 1) * 24 <= _; omega) x rfl; have e : IU' EY' x = BA' EY' x := RU' _; rw [e] at this; exact GU' this
theorem Apop_tri (L : List It) : Tri Θ default DN' [.ptr 0 0] [(0, lO L)] (.tuple [itA (L.headD It.zero), .v (.bool (!L.isEmpty))]) [(0, lO L.tail)] := by
 refine GW' ⟨rfl, Ye⟩ (fun s hs => ?_) (fun e => ?_)
 ·have ht := Z7' s hs.pi
  cases L with
  | nil =>
   have h0 : s.xs.length = 0 := hs.len; have e1 : VS' s = It.zero := if_pos h0; have e2 : VT' s = s := if_pos h0
   have e3 : (!decide (s.xs.length = 0)) = false := by rw [decide_eq_true h0]; rfl
   rw [e1, e2, e3] at ht; exact Tri.post ht (CH' δ (GU' hs))
  | cons x L =>
   have h0 : s.xs.length ≠ 0 := by rw [hs.len]; simp
   have e1 : VS' s = E3' s := if_neg h0; have e2 : VT' s = LF' s := if_neg h0
   have e3 : (!decide (s.xs.length = 0)) = true := by rw [decide_eq_false h0]; rfl
   rw [e1, e2, e3, hs.pop.1] at ht; exact Tri.post ht (CH' δ (GU' hs.pop.2))
 ·subst e; exact Tri.post VU' (CH' δ KE')
theorem Alen_tri (L : List It) : Tri Θ default DO' [.ptr 0 0] [(0, lO L)] (iv (o' L.length)) [(0, lO L)] := by
 refine GW' ⟨rfl, Ye⟩ (fun s hs => ?_) (fun e => ?_)
 ·have ht := Z9' s; rw [hs.len] at ht; exact Tri.post ht (CH' δ (GU' hs))
 ·subst e; exact Tri.post VV' (CH' δ KE')
theorem Anew_tri : Tri Θ default fNew [] [] (.ptr 1000 0) [(1000, lO [])] := Tri.post e9' (CH' δ KE')
def remD (s : Ps) (i : Nat) : Ps := if s.xs.length - 1 = i then s else if i < (AQ' (AL' s i (s.xs.length - 1)) i (s.xs.length - 1)).2 then (AQ' (AL' s i (s.xs.length - 1)) i (s.xs.length - 1)).1 else upS (AQ' (AL' s i (s.xs.length - 1)) i (s.xs.length - 1)).1 i
def remV (s : Ps) (i : Nat) : It := at' (remD s i) ((remD s i).xs.length - 1)
def remS (s : Ps) (i : Nat) : Ps := popS (remD s i)
theorem XQ' (n : Nat) : ∀ (j : Nat) (s : Ps), j < n -> n <= s.xs.length -> LY' (at' s) n j -> HX' (at' (upS s j)) n /\ (upS s j).xs.Perm s.xs /\ ∀ k, n <= k -> at' (upS s j) k = at' s k := by
 intro j
 induction j using Nat.strongRecOn with
 | ind j ih =>
  intro s hj hn h; rw [upS]; split
  ·rename_i h0; exact ⟨G6' h (.inl h0), List.Perm.refl _, fun _ _ => rfl⟩
  ·split
   ·rename_i h0 ha
    have hp : (j - 1) / 2 < s.xs.length := ω
    have hf : at' (AL' s ((j - 1) / 2) j) = BT' (at' s) ((j - 1) / 2) j := funext fun k => DD' s _ _ k hp ω
    have h2 := LG' h ω hj ha; have := ih ((j - 1) / 2) ω (AL' s ((j - 1) / 2) j) ω (by rw [B3']; exact hn) (by rw [hf]; exact h2)
    refine ⟨this.1, this.2.1.trans (EK' s _ _ hp ω), fun k hk => ?_⟩
    rw [this.2.2 k hk, hf, BT', if_neg ω, if_neg ω]
   ·rename_i h0 ha
    exact ⟨G6' h (.inr (by rw [nb]; simpa using ha)), List.Perm.refl _, fun _ _ => rfl⟩
def OB' (f : Nat -> It) (n i : Nat) : Prop := (∀ c, 0 < c -> c < n -> c ≠ i -> (c - 1) / 2 ≠ i -> nb (f ((c - 1) / 2)) (f c)) /\ ∀ c, 0 < c -> c < n -> (c - 1) / 2 = i -> 0 < i -> nb (f ((i - 1) / 2)) (f c)
theorem W3' {f : Nat -> It} (h : OB' f n i) (hji : (j - 1) / 2 = i) (hj0 : 0 < j) (hjn : j < n) (ha : ahead (f j) (f i) = true) (hs : ∀ c, 0 < c -> c < n -> (c - 1) / 2 = i -> nb (f j) (f c)) (hcj : ∀ c, 0 < c -> c < n -> (c - 1) / 2 = j -> nb (f j) (f c)) : HL' (BT' f i j) n j := by
 have hij : i ≠ j := ω
 have e1 : BT' f i j j = f i := if_pos rfl
 have e2 : BT' f i j i = f j := by rw [BT', if_neg hij, if_pos rfl]
 have e3 : ∀ k, k ≠ j -> k ≠ i -> BT' f i j k = f k := fun k h1 h2 => by rw [BT', if_neg h1, if_neg h2]
 refine ⟨fun c hc hcn hne => ?_, fun c hc hcn hpc _ => ?_⟩
 ·by_cases h1 : (c - 1) / 2 = i
  ·rw [h1, e2]
   by_cases hcj' : c = j
   ·rw [hcj', e1]; exact CS' ha
   ·rw [e3 c hcj' ω]; exact hs c hc hcn h1
  ·rw [e3 _ hne h1]
   by_cases hci : c = i
   ·rw [hci, e2]; exact h.2 j hj0 hjn hji ω
   ·rw [e3 c (fun e => h1 (e ▸ hji)) hci]; exact h.1 c hc hcn hci h1
 ·rw [hji, e2, e3 c ω ω]; exact hcj c hc hcn hpc
theorem W4' (n : Nat) (s : Ps) (i : Nat) (hn : n <= s.xs.length) (hin : i < n) (h : OB' (at' s) n i) :
  (i < (AQ' s i n).2 -> HX' (at' (AQ' s i n).1) n) /\ (¬ i < (AQ' s i n).2 -> (AQ' s i n).1 = s /\ LY' (at' s) n i) /\ (AQ' s i n).1.xs.Perm s.xs /\ ∀ k, n <= k -> at' (AQ' s i n).1 k = at' s k := by
 have snd_ge : ∀ (d : Nat) (s : Ps) (i : Nat), n - i <= d -> i <= (AQ' s i n).2 := by
  intro d
  induction d with
  | zero => intro s i hd; rw [AQ', dif_pos ω]; exact Yd
  | succ d ih =>
   intro s i hd; rw [AQ']; split
   ·exact Yd
   ·have hg := HE' s i n; split
    ·exact Nat.le_trans (Nat.le_of_lt hg) (ih _ _ ω)
    ·exact Yd
 by_cases hlt : n <= 2 * i + 1
 ·have e : AQ' s i n = (s, i) := by rw [AQ', dif_pos hlt]
  rw [e]
  refine ⟨fun hh => absurd hh (Nat.lt_irrefl _), fun _ => ⟨rfl, fun c hc hcn hne => h.1 c hc hcn hne ω, h.2⟩, List.Perm.refl _, fun _ _ => rfl⟩
 ·have hjn := NO' s i n hlt
  have hji : (BF' s i n - 1) / 2 = i := by unfold BF'; split <;> omega
  have hj0 : 0 < BF' s i n := by unfold BF'; split <;> omega
  have hg := HE' s i n
  have hmin : ∀ c, 0 < c -> c < n -> (c - 1) / 2 = i -> nb (at' s (BF' s i n)) (at' s c) := by
   intro c hc hcn e
   have hcase : c = 2 * i + 1 \/ c = 2 * i + 2 := ω
   unfold BF'; split
   ·rename_i hh
    rcases hcase with rfl | rfl
    ·exact CS' hh.2
    ·exact ahead_irrefl _
   ·rename_i hh
    rcases hcase with rfl | rfl
    ·exact ahead_irrefl _
    ·cases hb : ahead (at' s (2 * i + 2)) (at' s (2 * i + 1)) with
     | false => exact hb
     | true => exact absurd ⟨hcn, hb⟩ hh
  by_cases ha : ahead (at' s (BF' s i n)) (at' s i) = true
  ·have e : AQ' s i n = AQ' (AL' s i (BF' s i n)) (BF' s i n) n := by conv => lhs; rw [AQ', dif_neg hlt, if_pos ha]
   rw [e]
   have hi2 : i < s.xs.length := ω
   have hj2 : BF' s i n < s.xs.length := ω
   have hf : at' (AL' s i (BF' s i n)) = BT' (at' s) i (BF' s i n) := funext fun k => DD' s _ _ k hi2 hj2
   have hd := PL' n _ (AL' s i (BF' s i n)) (BF' s i n) (Yd) (by rw [B3']; exact hn) (by
    rw [hf]
    refine W3' h hji hj0 hjn ha hmin fun c hc hcn hp => ?_
    have := h.1 c hc hcn ω ω
    rwa [hp] at this)
   have hge := snd_ge _ (AL' s i (BF' s i n)) (BF' s i n) (Yd)
   refine ⟨fun _ => hd.1, fun hh => absurd (Nat.lt_of_lt_of_le hg hge) hh, hd.2.1.trans (EK' s _ _ hi2 hj2), fun k hk => ?_⟩
   rw [hd.2.2 k hk, hf, BT', if_neg ω, if_neg ω]
  ·have e : AQ' s i n = (s, i) := by rw [AQ', dif_neg hlt, if_neg ha]
   rw [e]
   have ha' : nb (at' s i) (at' s (BF' s i n)) := by simpa [nb] using ha
   refine ⟨fun hh => absurd hh (Nat.lt_irrefl _), fun _ => ⟨rfl, fun c hc hcn hne => ?_, h.2⟩, List.Perm.refl _, fun _ _ => rfl⟩
   by_cases hp : (c - 1) / 2 = i
   ·rw [hp]; exact H9' ha' (hmin c hc hcn hp)
   ·exact h.1 c hc hcn hne hp
theorem QI' {s : Ps} {x : It} {L : List It} (hP : PI s) (hm : JR' s) (hn : s.xs.length = n + 1) (hh : HX' (at' s) n) (hx : at' s n = x) (hperm : (x :: L).Perm s.xs) (hs : Sortd L) : AbsS (popS s) L := by
 have hpl : (popS s).xs.length = n := by
  show s.xs.dropLast.length = _; rw [List.length_dropLast, hn]; rfl
 have hlast : s.xs.length - 1 = n := ω
 have hat : ∀ k, k < n -> at' (popS s) k = at' s k := fun k hk => LN' _ _ ω
 refine ⟨⟨hP.m.mdel _, by have := hP.big; rw [hpl]; omega⟩, ?_, ?_, ?_, hs⟩
 ·intro k v; show AG' k (mdel s.m (at' s (s.xs.length - 1)).b) = some v ↔ _; rw [D5' hP.m, hpl, hlast]
  by_cases hk : k = (at' s n).b
  ·rw [if_pos hk]
   constructor
   ·intro e; cases e
   ·rintro ⟨i, hi, hb, _⟩; rw [hat i hi] at hb; have := hm.inj (i := i) (j := n) ω ω (hb.trans hk); omega
  ·rw [if_neg hk, hm k v, hn]
   constructor
   ·rintro ⟨i, hi, hb, hv⟩
    have hne : i ≠ n := fun e => hk (by rw [<- hb, e])
    exact ⟨i, by omega, by rw [hat i ω]; exact hb, hv⟩
   ·rintro ⟨i, hi, hb, hv⟩
    exact ⟨i, by omega, by rw [<- hat i hi]; exact hb, hv⟩
 ·rw [hpl]; intro c hc hcn; rw [hat c hcn, hat _ ω]; exact hh c hc hcn
 ·have hne : s.xs ≠ [] := fun e => by rw [e] at hn; cases hn
  have hl : s.xs.getLast hne = x := by
   rw [List.getLast_eq_getElem, <- hx, MW' _ _ ω]
   congr 1
  have hsplit : s.xs = s.xs.dropLast ++ [x] := by rw [<- hl]; exact (List.dropLast_concat_getLast hne).symm
  rw [hsplit] at hperm; have := hperm.trans (List.perm_append_comm (l₁ := s.xs.dropLast) (l₂ := [x])); exact (List.perm_cons x).1 this
theorem AbsS.rem {s : Ps} {L L' : List It} (h : AbsS s L) (hi : i < s.xs.length) (hL : L.Perm (at' s i :: L')) (hs : Sortd L') : remV s i = at' s i /\ AbsS (remS s i) L' := by
 have hn : s.xs.length = (s.xs.length - 1) + 1 := ω
 by_cases h1 : s.xs.length - 1 = i
 ·have e : remD s i = s := by rw [remD, if_pos h1]
  refine ⟨by rw [remV, e, h1], ?_⟩; rw [remS, e]; exact QI' h.pi h.map hn (fun c hc hcn => h.heap c hc ω) (by rw [h1]) (hL.symm.trans h.perm) hs
 ·have hlast : s.xs.length - 1 < s.xs.length := ω
  have hsl := B3' s i (s.xs.length - 1)
  have hf : at' (AL' s i (s.xs.length - 1)) = BT' (at' s) i (s.xs.length - 1) := funext fun k => DD' s _ _ k hi hlast
  have hhole : OB' (at' (AL' s i (s.xs.length - 1))) (s.xs.length - 1) i := by
   rw [hf]
   refine ⟨fun c hc hcn hci hpi => ?_, fun c hc hcn hp h0 => ?_⟩
   ·rw [BT', if_neg ω, if_neg hpi, BT', if_neg ω, if_neg hci]; exact h.heap c hc ω
   ·rw [BT', if_neg ω, if_neg ω, BT', if_neg ω, if_neg ω]; have a1 := h.heap i h0 hi; have a2 := h.heap c hc ω; rw [hp] at a2; exact H9' a1 a2
  obtain ⟨q1, q2, q3, q4⟩ := W4' (s.xs.length - 1) (AL' s i (s.xs.length - 1)) i ω ω hhole
  have hend : at' (AL' s i (s.xs.length - 1)) (s.xs.length - 1) = at' s i := by rw [hf, BT', if_pos rfl]
  obtain ⟨k1, k2⟩ := I3' (s.xs.length - 1) _ (AL' s i (s.xs.length - 1)) i (Yd) (h.pi.swap i (s.xs.length - 1)); have hdm := SN' (s.xs.length - 1) _ (AL' s i (s.xs.length - 1)) i (Yd) ω (h.map.swap hi hlast); have hpd : (AQ' (AL' s i (s.xs.length - 1)) i (s.xs.length - 1)).1.xs.Perm s.xs := q3.trans (EK' s _ _ hi hlast)
  by_cases h2 : i < (AQ' (AL' s i (s.xs.length - 1)) i (s.xs.length - 1)).2
  ·have e : remD s i = (AQ' (AL' s i (s.xs.length - 1)) i (s.xs.length - 1)).1 := by rw [remD, if_neg h1, if_pos h2]
   have hl : (remD s i).xs.length = s.xs.length := by rw [e, k2, hsl]
   have hv : at' (remD s i) (s.xs.length - 1) = at' s i := by rw [e, q4 _ (Yd), hend]
   refine ⟨by rw [remV, hl]; exact hv, ?_⟩; rw [remS]; refine QI' (n := s.xs.length - 1) (by rw [e]; exact k1) (by rw [e]; exact hdm) (by rw [hl]; exact hn) (by rw [e]; exact q1 h2) hv ?_ hs; rw [e]; exact (hL.symm.trans h.perm).trans hpd.symm
  ·obtain ⟨e0, hup⟩ := q2 h2
   have e : remD s i = upS (AQ' (AL' s i (s.xs.length - 1)) i (s.xs.length - 1)).1 i := by rw [remD, if_neg h1, if_neg h2]
   rw [e0] at k1 k2 hdm hpd; obtain ⟨u1, u2, u3⟩ := XQ' (s.xs.length - 1) i (AL' s i (s.xs.length - 1)) ω ω hup; obtain ⟨v1, v2⟩ := OD' (AL' s i (s.xs.length - 1)) i k1
   have hl : (remD s i).xs.length = s.xs.length := by rw [e, e0, v2, hsl]
   have hv : at' (remD s i) (s.xs.length - 1) = at' s i := by rw [e, e0, u3 _ (Yd), hend]
   refine ⟨by rw [remV, hl]; exact hv, ?_⟩; rw [remS]; refine QI' (n := s.xs.length - 1) (by rw [e, e0]; exact v1) (by rw [e, e0]; exact aC' _ _ ω hdm) (by rw [hl]; exact hn) (by rw [e, e0]; exact u1) hv ?_ hs; rw [e, e0]; exact (hL.symm.trans h.perm).trans (u2.trans hpd).symm
def VP' (s : Ps) (k : Int) : It := if isIn k s = true then remV s (L9' k s.m).toNat else It.zero
def VQ' (s : Ps) (k : Int) : Ps := if isIn k s = true then remS s (L9' k s.m).toNat else s
def remK (k : Int) (L : List It) : List It := L.filter fun y => !(y.b == k)
def GZ' (k : Int) (L : List It) : It := (L.find? fun y => y.b == k).getD It.zero
theorem OR' {k : Int} : ∀ {L : List It} {x : It}, (∀ y ∈ L, ∀ z ∈ L, y.b = z.b -> y = z) -> L.Nodup -> x ∈ L -> x.b = k -> L.Perm (x :: remK k L)
 | [], x, _, _, hx, _ => by cases hx
 | y :: l, x, hu, hd, hx, hk => by
  obtain ⟨hd1, hd2⟩ := List.nodup_cons.1 hd
  have hu' : ∀ a ∈ l, ∀ b ∈ l, a.b = b.b -> a = b := fun a ha b hb => hu a (List.mem_cons_of_mem _ ha) b (List.mem_cons_of_mem _ hb)
  rcases List.mem_cons.1 hx with rfl | hx'
  ·have e : remK k (x :: l) = l := by
    rw [remK, List.filter_cons]
    have h1 : (!(x.b == k)) = false := by simp [hk]
    rw [h1, if_neg Bool.false_ne_true, List.filter_eq_self]; intro z hz
    have : z.b ≠ k := fun ez => hd1 (by rw [hu x ms' z (List.mem_cons_of_mem _ hz) (hk.trans ez.symm)]; exact hz)
    simpa using this
   rw [e]
  ·have hy : y.b ≠ k := fun ey => hd1 (by rw [hu y ms' x hx (ey.trans hk.symm)]; exact hx')
   have e : remK k (y :: l) = y :: remK k l := by
    rw [remK, List.filter_cons]
    have h1 : (!(y.b == k)) = true := by simpa using hy
    rw [if_pos h1]; rfl
   rw [e]; exact ((OR' hu' hd2 hx' hk).cons y).trans (List.Perm.swap x y _)
theorem sorted_nodup {L : List It} (h : Sortd L) : L.Nodup := h.imp fun {a b} hab e => by subst e; rw [ahead_irrefl] at hab; cases hab
theorem AbsS.uniq {s : Ps} {L : List It} (h : AbsS s L) : ∀ y ∈ L, ∀ z ∈ L, y.b = z.b -> y = z := by
 intro y hy z hz e; obtain ⟨i, hi, rfl⟩ := JW'.1 (h.perm.mem_iff.1 hy); obtain ⟨j, hj, rfl⟩ := JW'.1 (h.perm.mem_iff.1 hz); rw [h.map.inj hi hj e]
theorem ZM' {L : List It} (hu : ∀ y ∈ L, ∀ z ∈ L, y.b = z.b -> y = z) {x : It} (hx : x ∈ L) {k : Int} (hk : x.b = k) : GZ' k L = x := by
 rw [GZ']
 cases hf : L.find? (fun y => y.b == k) with
 | none =>
  have := List.find?_eq_none.1 hf x hx; simp [hk] at this
 | some z =>
  have h1 := List.find?_some hf; have h2 := List.mem_of_find?_eq_some hf; exact hu z h2 x hx (by rw [hk]; simpa using h1)
theorem AbsS.take {s : Ps} {L : List It} (h : AbsS s L) (k : Int) : VP' s k = GZ' k L /\ AbsS (VQ' s k) (remK k L) := by
 cases hi : Rk.isIn k s with
 | false =>
  have hn : ¬ Rk.isIn k s = true := by rw [hi]; exact Bool.false_ne_true
  have e4 : VP' s k = It.zero := if_neg hn; have e5 : VQ' s k = s := if_neg hn; rw [h.isIn k, List.any_eq_false] at hi
  have e6 : GZ' k L = It.zero := by
   rw [GZ', List.find?_eq_none.2 fun x hx => hi x hx]; rfl
  have e7 : remK k L = L := List.filter_eq_self.2 fun x hx => by simpa using hi x hx
  rw [e4, e5, e6, e7]; exact ⟨rfl, h⟩
 | true =>
  have e4 : VP' s k = remV s (L9' k s.m).toNat := if_pos hi; have e5 : VQ' s k = remS s (L9' k s.m).toNat := if_pos hi; obtain ⟨v, hv⟩ := Option.isSome_iff_exists.1 (show (AG' k s.m).isSome = true from hi); obtain ⟨i, hil, hb, rfl⟩ := (h.map k v).1 hv
  have hd : (L9' k s.m).toNat = i := by rw [L9', hv]; rfl
  have hmem : at' s i ∈ L := h.perm.mem_iff.2 (JW'.2 ⟨i, hil, rfl⟩); have hr := h.rem hil (OR' h.uniq (sorted_nodup h.sorted) hmem hb) (h.sorted.filter _); rw [e4, e5, hd, ZM' h.uniq hmem hb]; exact hr
end Go.Proofs.Ytjjjchmkonnpfaa.Rk
namespace Go.Proofs.Ytjjjchmkonnpfaa.Qb
open Go Go.RowKit Eng Kit Tree
open Rk (lO itA BZ' putL)
open Int renaming ofNat -> o'
open AO renaming cells -> ce'
open AV renaming v -> v'
open AV renaming ptr -> pt'
open Go.Value renaming slice -> sl'
noncomputable section
structure Cf where
 t1 : Int
 t2 : Int
 ml : Int
 mp : Int
 a1 : Δ
 a2 : Δ
 a3 : Δ
 b1 : Bool
 b2 : Bool
 b3 : Bool
structure Qs where
 cf : Cf
 m : IMap Kc
 ck : Nat
 L : List It
 o : IMap Int
 ok : Nat
 la : Int
abbrev tQu : TypeId := 2 * 64
def cfA (c : Cf) : List AV := [iv c.t1, iv c.t2, iv c.ml, iv c.mp, sv c.a1, sv c.a2, sv c.a3, bv c.b1, bv c.b2, bv c.b3]
def qC (c : Cf) (la : Int) : AO := .cells [iv c.t1, iv c.t2, iv c.ml, iv c.mp, sv c.a1, sv c.a2, sv c.a3, bv c.b1, bv c.b2, bv c.b3, .map 1001, .ptr 1003 0, .map 1004, iv la, nilS] tQu
def uQ (s : Qs) (P : Mem -> Prop) : LH := [(0, qC s.cf s.la), (1001, .map (mE aggK s.m) s.ck), (1002, .any (frz P)), (1003, lO s.L), (1004, .map (mE iv s.o) s.ok)]
def uB (s : Qs) (P : Mem -> Prop) (c : Kc) : LH := [(0, qC s.cf s.la), (1001, .map (mE aggK s.m) s.ck), (1002, .any (frz P)), (1003, lO s.L), (1004, .map (mE iv s.o) s.ok), (1010, .cells (vmap c.cells) tKc)]
abbrev CI' : Nat := 12
abbrev MS' : Nat := 31
abbrev fPop : Nat := 14
abbrev NN' : Nat := 21
abbrev b0' : Nat := 38
abbrev JC' : Nat := 17
abbrev QW' : Nat := 7
abbrev JD' : Nat := 15
def cCd (c : Kc) (FV TV : AV) (OF OT : AO) : List AV -> Option (AP AV) := mkC (fun _ => .ret ()) (fun _ => True) (fun _ k => k) (fun _ => [aggK c]) (fun _ => []) (fun _ => .leaf .ret [aggN c FV TV] [(1007, OF), (1008, OT)])
def aggU (c : Kc) : AV := aggN c .un .un
def cCr (c : Kc) (P : Mem -> Prop) : List AV -> Option (AP AV) := mkC (fun _ => .ret ()) (fun _ => True) (fun _ k => match k with | 0 => 1002 | k => k) (fun _ => [aggK c]) (fun _ => [(0, .any (frz P))]) (fun _ => .leaf .ret [aggU c] [(0, .any (frz P))])
def gP1 : List AV -> AP Nat := fun args => match args with
 | .ptr i _ :: _ => .ret i
 | _ => .fail "a pointer"
def nmP (i : Nat) : Nat -> Nat := fun k => match k with | 0 => i | k => k
def LS' (L : List It) (x : It) : List AV -> Option (AP AV) := mkC gP1 (fun _ => True) nmP (fun _ => [.ptr 0 0, itA x]) (fun _ => [(0, lO L)]) (fun _ => .leaf .ret [.v (.bool (!BZ' x.b L))] [(0, lO (putL L x))])
def TS' (L : List It) : List AV -> Option (AP AV) := mkC gP1 (fun _ => True) nmP (fun _ => [.ptr 0 0]) (fun _ => [(0, lO L)]) (fun _ => .leaf .ret [.tuple [itA (L.headD Rk.It.zero), .v (.bool (!L.isEmpty))]] [(0, lO L.tail)])
def f2' (L : List It) : List AV -> Option (AP AV) := mkC gP1 (fun _ => True) nmP (fun _ => [.ptr 0 0]) (fun _ => [(0, lO L)]) (fun _ => .leaf .ret [iv (o' L.length)] [(0, lO L)])
def cLNew : List AV -> Option (AP AV) := mkC (fun _ => .ret ()) (fun _ => True) (fun _ k => k) (fun _ => []) (fun _ => []) (fun _ => .leaf .ret [.ptr 1000 0] [(1000, lO [])])
def kQ : List Nat := [0, 1001, 1002, 1003, 1004, 1010, 1100, 1101, 1102, 1103, 1104, 1105, 1106, 1107]
abbrev k52' : Cnd := ((p' True).a (f' (VW [] [])))
abbrev k53' (q0 : Cf) : Cnd := (ee' [z' q0.t1,z' q0.t2,z' q0.ml,z' q0.mp,s' q0.a1,s' q0.a2,s' q0.a3,b' q0.b1,b' q0.b2,b' q0.b3])
theorem QL' (c : Cf) (F : HP) : wRun [(26, cLNew)] AF' [] default QW' [.agg (cfA c)] [] [1100, 1101, 1102, 1103, 1104] F = VT.leaf (pt' 1104 0) [some (ce' [z' c.t1,z' c.t2,z' c.ml,z' c.mp,s' c.a1,s' c.a2,s' c.a3,b' c.b1,b' c.b2,b' c.b3] 54),some (AO.map [] 0),some (AO.own (Md.line []) (Rk.lH [])),some (AO.map [] 0),some (ce' [z' c.t1,z' c.t2,z' c.ml,z' c.mp,s' c.a1,s' c.a2,s' c.a3,b' c.b1,b' c.b2,b' c.b3,AV.map 1101,pt' 1102 0,AV.map 1103,i' 0,e'] 128)] 1105 ((k53' c).a (k52'.a k1')) := χ
theorem dJ' (W : World) (s : Qs) (P : Mem -> Prop) (c : Kc) (F : HP) : BI' [] AF' [] W CI' (fst (K5' CI')) (tms 0 18 [(0, .ptr 0 0), (1, aggK c)]) (uQ s P) kQ [0, 3, 4] F = VT.leaf (AX.normal,[pt' 0 0,pt' 1100 0,i' 0],18) [some (ce' [z' s.cf.t1,z' s.cf.t2,z' s.cf.ml,z' s.cf.mp,s' s.cf.a1,s' s.cf.a2,s' s.cf.a3,b' s.cf.b1,b' s.cf.b2,b' s.cf.b3,AV.map 1001,pt' 1003 0,AV.map 1004,z' s.la,e'] 128),some (AO.map (mE aggK s.m) s.ck),some (AO.any (frz P)),some (AO.own (Md.line s.L) (Rk.lH s.L)),some (AO.map (mE iv s.o) s.ok),none,some (ce' [z' c.sq,z' c.gh,z' c.bo,z' c.si,s' c.ex,s' c.ke,z' c.fl,s' c.ct,s' c.ce,v' (sl' c.ha (List.length c.f) c.hc),z' c.dm,z' c.pr,s' c.s1,s' c.s2,s' c.s3,s' c.s4,z' c.ts,s' c.s5,s' c.s6,s' c.s7,z' c.xp,z' c.pi,v' (sl' c.ta c.tr.length c.tc),b' c.du,b' c.re] 82),none,none,none,none,none,none,none] 1101 k1' := χ
abbrev k54' (q0 : Kc) : Cnd := ((p' True).a (f' (VW [AV.agg [z' q0.sq,z' q0.gh,z' q0.bo,z' q0.si,s' q0.ex,s' q0.ke,z' q0.fl,s' q0.ct,s' q0.ce,v' (sl' q0.ha (List.length q0.f) q0.hc),z' q0.dm,z' q0.pr,s' q0.s1,s' q0.s2,s' q0.s3,s' q0.s4,z' q0.ts,s' q0.s5,s' q0.s6,s' q0.s7,z' q0.xp,z' q0.pi,v' (sl' q0.ta q0.tr.length q0.tc),b' q0.du,b' q0.re]] [AV.agg [z' q0.sq,z' q0.gh,z' q0.bo,z' q0.si,s' q0.ex,s' q0.ke,z' q0.fl,s' q0.ct,s' q0.ce,v' (sl' q0.ha (List.length q0.f) q0.hc),z' q0.dm,z' q0.pr,s' q0.s1,s' q0.s2,s' q0.s3,s' q0.s4,z' q0.ts,s' q0.s5,s' q0.s6,s' q0.s7,z' q0.xp,z' q0.pi,v' (sl' q0.ta q0.tr.length q0.tc),b' q0.du,b' q0.re]])))
abbrev k55' (q0 : Kc) : Cnd := (ee' [z' q0.sq,z' q0.gh,z' q0.bo,z' q0.si,s' q0.ex,s' q0.ke,z' q0.fl,s' q0.ct,s' q0.ce,v' (sl' q0.ha (List.length q0.f) q0.hc),z' q0.dm,z' q0.pr,s' q0.s1,s' q0.s2,s' q0.s3,s' q0.s4,z' q0.ts,s' q0.s5,s' q0.s6,s' q0.s7,z' q0.xp,z' q0.pi,v' (sl' q0.ta q0.tr.length q0.tc),b' q0.du,b' q0.re])
theorem V6' (W : World) (s : Qs) (P : Mem -> Prop) (c : Kc) (OF OT : AO) (F : HP) : BI' [(fCd, cCd c nilS .mt OF OT)] AF' [] W CI' (fst (snd (K5' CI'))) (tms 0 18 [(0, .ptr 0 0), (3, .ptr 1010 0), (4, iv 0)]) (uB s P c) kQ [0, 3, 4] F = VT.leaf (AX.normal,[pt' 0 0,pt' 1010 0,i' 0],18) [some (ce' [z' s.cf.t1,z' s.cf.t2,z' s.cf.ml,z' s.cf.mp,s' s.cf.a1,s' s.cf.a2,s' s.cf.a3,b' s.cf.b1,b' s.cf.b2,b' s.cf.b3,AV.map 1001,pt' 1003 0,AV.map 1004,z' s.la,e'] 128),some (AO.map (mE aggK s.m) s.ck),some (AO.any (frz P)),some (AO.own (Md.line s.L) (Rk.lH s.L)),some (AO.map (mE iv s.o) s.ok),some (ce' [z' c.sq,z' c.gh,z' c.bo,z' c.si,s' c.ex,s' c.ke,z' c.fl,s' c.ct,s' c.ce,e',z' c.dm,z' c.pr,s' c.s1,s' c.s2,s' c.s3,s' c.s4,z' c.ts,s' c.s5,s' c.s6,s' c.s7,z' c.xp,z' c.pi,AV.mt,b' c.du,b' c.re] 82),some (AO.ren (sgN (fun k => k) [1007,1008] 1100) OF),some (AO.ren (sgN (fun k => k) [1007,1008] 1100) OT),none,none,none,none,none,none] 1102 ((k55' c).a ((k54' c).a (k12'.a k1'))) := χ
theorem V7' (W : World) (s : Qs) (P : Mem -> Prop) (c : Kc) (OF OT : AO) (F : HP) : BI' [(fCd, cCd c nilS (sS 1008 c.tr.length) OF OT)] AF' [] W CI' (fst (snd (K5' CI'))) (tms 0 18 [(0, .ptr 0 0), (3, .ptr 1010 0), (4, iv 0)]) (uB s P c) kQ [0, 3, 4] F = VT.leaf (AX.normal,[pt' 0 0,pt' 1010 0,i' 0],18) [some (ce' [z' s.cf.t1,z' s.cf.t2,z' s.cf.ml,z' s.cf.mp,s' s.cf.a1,s' s.cf.a2,s' s.cf.a3,b' s.cf.b1,b' s.cf.b2,b' s.cf.b3,AV.map 1001,pt' 1003 0,AV.map 1004,z' s.la,e'] 128),some (AO.map (mE aggK s.m) s.ck),some (AO.any (frz P)),some (AO.own (Md.line s.L) (Rk.lH s.L)),some (AO.map (mE iv s.o) s.ok),some (ce' [z' c.sq,z' c.gh,z' c.bo,z' c.si,s' c.ex,s' c.ke,z' c.fl,s' c.ct,s' c.ce,e',z' c.dm,z' c.pr,s' c.s1,s' c.s2,s' c.s3,s' c.s4,z' c.ts,s' c.s5,s' c.s6,s' c.s7,z' c.xp,z' c.pi,AV.slice 1101 0 c.tr.length 1 (Cp.lo c.tr.length),b' c.du,b' c.re] 82),some (AO.ren (sgN (fun k => k) [1007,1008] 1100) OF),some (AO.ren (sgN (fun k => k) [1007,1008] 1100) OT),none,none,none,none,none,none] 1102 ((k55' c).a ((k54' c).a (k12'.a k1'))) := χ
theorem V8' (W : World) (s : Qs) (P : Mem -> Prop) (c : Kc) (OF OT : AO) (F : HP) : BI' [(fCd, cCd c (sF 1007 c.f.length) .mt OF OT)] AF' [] W CI' (fst (snd (K5' CI'))) (tms 0 18 [(0, .ptr 0 0), (3, .ptr 1010 0), (4, iv 0)]) (uB s P c) kQ [0, 3, 4] F = VT.leaf (AX.normal,[pt' 0 0,pt' 1010 0,i' 0],18) [some (ce' [z' s.cf.t1,z' s.cf.t2,z' s.cf.ml,z' s.cf.mp,s' s.cf.a1,s' s.cf.a2,s' s.cf.a3,b' s.cf.b1,b' s.cf.b2,b' s.cf.b3,AV.map 1001,pt' 1003 0,AV.map 1004,z' s.la,e'] 128),some (AO.map (mE aggK s.m) s.ck),some (AO.any (frz P)),some (AO.own (Md.line s.L) (Rk.lH s.L)),some (AO.map (mE iv s.o) s.ok),some (ce' [z' c.sq,z' c.gh,z' c.bo,z' c.si,s' c.ex,s' c.ke,z' c.fl,s' c.ct,s' c.ce,AV.slice 1100 0 (List.length c.f) 6 (Cp.lo (List.length c.f)),z' c.dm,z' c.pr,s' c.s1,s' c.s2,s' c.s3,s' c.s4,z' c.ts,s' c.s5,s' c.s6,s' c.s7,z' c.xp,z' c.pi,AV.mt,b' c.du,b' c.re] 82),some (AO.ren (sgN (fun k => k) [1007,1008] 1100) OF),some (AO.ren (sgN (fun k => k) [1007,1008] 1100) OT),none,none,none,none,none,none] 1102 ((k55' c).a ((k54' c).a (k12'.a k1'))) := χ
theorem V9' (W : World) (s : Qs) (P : Mem -> Prop) (c : Kc) (OF OT : AO) (F : HP) : BI' [(fCd, cCd c (sF 1007 c.f.length) (sS 1008 c.tr.length) OF OT)] AF' [] W CI' (fst (snd (K5' CI'))) (tms 0 18 [(0, .ptr 0 0), (3, .ptr 1010 0), (4, iv 0)]) (uB s P c) kQ [0, 3, 4] F = VT.leaf (AX.normal,[pt' 0 0,pt' 1010 0,i' 0],18) [some (ce' [z' s.cf.t1,z' s.cf.t2,z' s.cf.ml,z' s.cf.mp,s' s.cf.a1,s' s.cf.a2,s' s.cf.a3,b' s.cf.b1,b' s.cf.b2,b' s.cf.b3,AV.map 1001,pt' 1003 0,AV.map 1004,z' s.la,e'] 128),some (AO.map (mE aggK s.m) s.ck),some (AO.any (frz P)),some (AO.own (Md.line s.L) (Rk.lH s.L)),some (AO.map (mE iv s.o) s.ok),some (ce' [z' c.sq,z' c.gh,z' c.bo,z' c.si,s' c.ex,s' c.ke,z' c.fl,s' c.ct,s' c.ce,AV.slice 1100 0 (List.length c.f) 6 (Cp.lo (List.length c.f)),z' c.dm,z' c.pr,s' c.s1,s' c.s2,s' c.s3,s' c.s4,z' c.ts,s' c.s5,s' c.s6,s' c.s7,z' c.xp,z' c.pi,AV.slice 1101 0 c.tr.length 1 (Cp.lo c.tr.length),b' c.du,b' c.re] 82),some (AO.ren (sgN (fun k => k) [1007,1008] 1100) OF),some (AO.ren (sgN (fun k => k) [1007,1008] 1100) OT),none,none,none,none,none,none] 1102 ((k55' c).a ((k54' c).a (k12'.a k1'))) := χ
def hSt (n rk : Int) : AO' := AN' [(CI', 2, 4, hv (iv n)), (MS', 1, 10, hv (iv rk)), (MS', 4, 7, hv (iv n))]
theorem dI' (W : World) (s : Qs) (P : Mem -> Prop) (c : Kc) (n rk : Int) (F : HP) : BI' [(D2', LS' s.L ⟨rk, n, 0⟩)] (hSt n rk) [] W CI' (snd (snd (K5' CI'))) (tms 0 18 [(0, .ptr 0 0), (3, .ptr 1010 0), (4, iv 0)]) (uB s P c) kQ [0, 4] F = VT.leaf (AX.ret,[pt' 0 0,z' n],18) [some (ce' [z' s.cf.t1,z' s.cf.t2,z' s.cf.ml,z' s.cf.mp,s' s.cf.a1,s' s.cf.a2,s' s.cf.a3,b' s.cf.b1,b' s.cf.b2,b' s.cf.b3,AV.map 1001,pt' 1003 0,AV.map 1004,z' n,e'] 128),some (AO.map (setE (z' n) (AV.agg [z' n,z' c.gh,z' c.bo,z' c.si,s' c.ex,s' c.ke,z' c.fl,s' c.ct,s' c.ce,v' (sl' c.ha (List.length c.f) c.hc),z' c.dm,z' c.pr,s' c.s1,s' c.s2,s' c.s3,s' c.s4,z' c.ts,s' c.s5,s' c.s6,s' c.s7,z' c.xp,z' c.pi,v' (sl' c.ta c.tr.length c.tc),b' c.du,b' c.re]) (mE aggK s.m) s.ck) (E1' (z' n) (mE aggK s.m) s.ck)),some (AO.any (frz P)),some (AO.own (Md.line (putL s.L (It.mk rk n (o' 0)))) (Rk.lH (putL s.L (It.mk rk n (o' 0))))),some (AO.map (mE iv s.o) s.ok),some (ce' [z' n,z' c.gh,z' c.bo,z' c.si,s' c.ex,s' c.ke,z' c.fl,s' c.ct,s' c.ce,v' (sl' c.ha (List.length c.f) c.hc),z' c.dm,z' c.pr,s' c.s1,s' c.s2,s' c.s3,s' c.s4,z' c.ts,s' c.s5,s' c.s6,s' c.s7,z' c.xp,z' c.pi,v' (sl' c.ta c.tr.length c.tc),b' c.du,b' c.re] 82),some (ce' [z' n,z' c.gh,z' c.bo,z' c.si,s' c.ex,s' c.ke,z' c.fl,s' c.ct,s' c.ce,v' (sl' c.ha (List.length c.f) c.hc),z' c.dm,z' c.pr,s' c.s1,s' c.s2,s' c.s3,s' c.s4,z' c.ts,s' c.s5,s' c.s6,s' c.s7,z' c.xp,z' c.pi,v' (sl' c.ta c.tr.length c.tc),b' c.du,b' c.re] 82),none,none,none,none,none,none,none] 1101 ((ee' (z' s.la)).a ((f' (Wk (z' (IntKind.i64.wrap (s.la + o' 1))) (z' n))).a (k12'.a ((ee' [z' n,z' c.gh,z' c.bo,z' c.si,s' c.ex,s' c.ke,z' c.fl,s' c.ct,s' c.ce,v' (sl' c.ha (List.length c.f) c.hc),z' c.dm,z' c.pr,s' c.s1,s' c.s2,s' c.s3,s' c.s4,z' c.ts,s' c.s5,s' c.s6,s' c.s7,z' c.xp,z' c.pi,v' (sl' c.ta c.tr.length c.tc),b' c.du,b' c.re]).a (((ee' (z' c.pi)).a ((ee' (z' s.cf.mp)).a ((f' (Wk (z' (if (if (if s.cf.mp > o' 0 then s.cf.mp else o' 0) < c.pi then if s.cf.mp > o' 0 then s.cf.mp else o' 0 else c.pi) > o' 0 then if (if s.cf.mp > o' 0 then s.cf.mp else o' 0) < c.pi then if s.cf.mp > o' 0 then s.cf.mp else o' 0 else c.pi else o' 0)) (z' rk))).a ((fe' true).a ((ee' (z' n)).a ((ee' [z' n,z' c.gh,z' c.bo,z' c.si,s' c.ex,s' c.ke,z' c.fl,s' c.ct,s' c.ce,v' (sl' c.ha (List.length c.f) c.hc),z' c.dm,z' c.pr,s' c.s1,s' c.s2,s' c.s3,s' c.s4,z' c.ts,s' c.s5,s' c.s6,s' c.s7,z' c.xp,z' c.pi,v' (sl' c.ta c.tr.length c.tc),b' c.du,b' c.re]).a (((p' (findKey Try.prog (envW [(46,LS' s.L (It.mk rk n (o' 0)))] (hSt n rk) [] W F) 3 (z' n) (mE aggK s.m) 0 = AP.ret (AR' (z' n) (mE aggK s.m) 0))).a (f' (GI' (z' n) (mE aggK s.m)))).a ((fe' true).a ((ee' (z' n)).a (((Cnd.p True).a ((vw' [pt' 1003 0,AV.agg [z' rk,z' n,i' 0]]).a (f' (OW (AO.own (Md.line s.L) (Rk.lH s.L)) (AO.own (Md.line s.L) (Rk.lH s.L)))))).a ((ee' (z' s.la)).a ((ee' (z' n)).a ((f' (Wk (z' (if n > s.la then n else s.la)) (z' n))).a ((fe' true).a t')))))))))))))).a ((ee' (z' n)).a k1')))))) := χ
end
end Go.Proofs.Ytjjjchmkonnpfaa.Qb
namespace Go.Proofs.Ytjjjchmkonnpfaa.Rk
open Go Go.RowKit Eng Go.Sort Go.Lib Go.Shelf Kit
open AO renaming cells -> ce'
abbrev H0' : Nat := 49
abbrev fAhead : Nat := 50
set_option maxHeartbeats 2000000 in
theorem RE' (x y : It) (W : World) : Calls Θ fAhead #[.agg #[.int .i64 x.a, .int .i64 x.b, .int .i64 x.c], .agg #[.int .i64 y.a, .int .i64 y.b, .int .i64 y.c]] W fun e w' => e = .returned (.bool (ahead x y)) /\ ∃ q os', w' = grow (W.drewN q) os' := by
 go_enter Try.func50, Try.ntmps50
 go_wp2
 all_goals go_ret
 all_goals refine ⟨?_, 0, _, by rw [alloc_eq_grow, alloc_eq_grow, grow_grow]; rfl⟩
 all_goals simp_all [ahead]
 all_goals omega
def cmpI (x y : It) : Int := if ahead x y = true then -1 else 1
set_option maxHeartbeats 2000000 in
theorem NQ' (x y : It) (W : World) : Calls Θ H0' #[.agg #[.int .i64 x.a, .int .i64 x.b, .int .i64 x.c], .agg #[.int .i64 y.a, .int .i64 y.b, .int .i64 y.c]] W fun e w' => e = .returned (.int .i64 (cmpI x y)) /\ ∃ q os', w' = grow (W.drewN q) os' := by
 have hcon := fun W' => RE' x y W'
 change ∀ W', Calls Θ 50 _ _ _ at hcon; unfold cmpI
 generalize ahead x y = r at hcon ⊢
 go_enter Try.func49, Try.ntmps49
 go_wp2_with (go_at_call 50; refine (hcon _).mono ?_; rintro e w' ⟨rfl, q, os', rfl⟩)
 all_goals go_ret
 all_goals refine ⟨?_, q, _, by rw [alloc_eq_grow, alloc_eq_grow, grow_grow]; exact grow_grow (W.drewN q) _ _⟩
 all_goals first | rfl | simp_all
instance : Inhabited It := ⟨It.zero⟩
theorem WP' : ltOf cmpI = ahead := by
 funext x y; unfold ltOf cmpI
 cases ahead x y <;> simp
theorem U9' : SWO (ltOf cmpI) := by
 rw [WP']
 refine ⟨fun x => ?_, fun x y z h1 h2 => ?_, fun x y z h1 h2 => ?_⟩
 ·simp [ahead]
 ·simp only [ahead, Bool.or_eq_true, Bool.and_eq_true, decide_eq_true_eq, beq_iff_eq] at *; omega
 ·rw [<- Bool.not_eq_true] at *; simp only [ahead, Bool.or_eq_true, Bool.and_eq_true, decide_eq_true_eq, beq_iff_eq] at *; omega
theorem eU' (blk off size : Nat) (w : World) : CmpLays Θ H0' #[] enc 3 cmpI blk off size w := fun _ _ _ _ x y => NQ' x y _
abbrev HN' : Nat := 48
theorem SL' (d : Array It) (j : Nat) (hj : j < d.size * 3) : (d.toList.flatMap enc)[j]? = some ((flatK enc 3 d)[j]!) := by
 have h1 : j / 3 < d.toList.length := by rw [Array.length_toList]; omega
 have h2 := ML' enc_length d.toList (j / 3) (j % 3) h1 ω
 have e : j / 3 * 3 + j % 3 = j := ω
 rw [e] at h2; rw [h2, get_flatK enc 3 d j hj]
 have h3 : d[j / 3]! = d.toList[j / 3] := by
  rw [getElem!_pos d (j / 3) (by simpa using h1)]; simp
 rw [h3]
 have hl : j % 3 < (enc d.toList[j / 3]).length := by rw [enc_length]; omega
 rw [List.getElem?_eq_getElem hl, getElem!_pos (enc d.toList[j / 3]) (j % 3) hl]
theorem ZL' (l : List It) : (l.flatMap enc).length = l.length * 3 := by
 have := B9' enc_length l
 rwa [rowV, CQ'] at this
theorem UD' {l L : List It} {d' : Array It} (hp : l.Perm L) (hs : Sortd L) (h1 : PermIn 0 l.toArray.size l.toArray d') (h2 : SortedIn (ltOf cmpI) 0 l.toArray.size d') : d'.toList = L := by
 obtain ⟨hz, _, hpm⟩ := h1
 have e1 : d'.extract 0 l.toArray.size = d' := by rw [<- hz]; simp
 have e2 : l.toArray.extract 0 l.toArray.size = l.toArray := by simp
 rw [e1, e2] at hpm; have hpL : d'.toList.Perm L := hpm.trans hp; refine List.Perm.eq_of_pairwise (le := nb) (fun a b ha hb h3 h4 => ?_) ?_ (hs.imp fun h => CS' h) hpL
 ·have ha' : a ∈ L := hpL.mem_iff.1 ha; obtain ⟨i, hi, rfl⟩ := List.mem_iff_getElem.1 ha'; obtain ⟨j, hj, rfl⟩ := List.mem_iff_getElem.1 hb; have hs2 := List.pairwise_iff_getElem.1 hs
  rcases Nat.lt_trichotomy i j with h | h | h
  ·have := hs2 i j hi hj h; rw [nb, this] at h4; cases h4
  ·subst h; rfl
  ·have := hs2 j i hj hi h; rw [nb, this] at h3; cases h3
 ·rw [List.pairwise_iff_getElem]; intro i j hi hj hij
  have hj' : j < d'.size := by simpa using hj
  have hi' : i < d'.size := by simpa using hi
  have := h2 i j (Nat.zero_le _) hij (by rw [<- hz]; exact hj'); rw [WP', getElem!_pos d' j hj', getElem!_pos d' i hi'] at this; simpa [nb] using this
def sF : AV := .v (.func (.func H0') #[] #[])
theorem XU' (l L : List It) (c : Cp) (h0 : 0 < l.length) (hb : l.length < 4611686018427387904) (hp : l.Perm L) (hs : Sortd L) : Tri Θ default HN' [.slice 0 0 l.length 3 c, sF] [(0, .cells (rowV enc l) tIt)] (.tuple []) [(0, .cells (rowV enc L) tIt)] := by
 intro W0 F N w vargs _ hN r hv
 have hfo : ∀ o : AO, (AD' [(0, o)]).find 0 = some o := fun o => by
  rw [A8' χ, getO, if_pos rfl]
 have hfn : ∀ (o : AO) i, i ≠ 0 -> (AD' [(0, o)]).find i = none := fun o i hi => by
  rw [A8' χ, getO, if_neg hi]; rfl
 simp only [VRs, sF] at hv; obtain ⟨y1, r1, hy1, ⟨y2, r2, hy2, rfl, rfl⟩, hvl⟩ := hv
 obtain rfl : vargs = #[y1, y2] := by cases vargs; simp_all
 simp only [VR] at hy1 hy2; obtain ⟨p, x, cc, q1, rfl, q3, q4, q5, q6⟩ := hy1; subst hy2; obtain ⟨D, hO⟩ := r.obj (hfo _); obtain ⟨p', arr, fz, g1, g2, g3, g4, g5, g6, g7, g8⟩ := hO
 obtain rfl : p' = p := by rw [q1] at g1; cases g1; rfl
 obtain ⟨g9, rfl⟩ := g8 δ; rw [B9' enc_length] at g5 g7
 have hx : x = 0 := by
  rcases q3 with h | h
  ·rw [h, g9]
  ·omega
 subst hx; rw [g9, List.drop_zero] at g7; have hcells : arr.toList.take (l.length * 3) = l.flatMap enc := VRs.of_vmap g7
 have hsz : l.length * 3 <= arr.size := ω
 have hcell : ∀ j, j < l.length * 3 -> arr[j]? = (l.flatMap enc)[j]? := fun j hj => by
  rw [<- hcells, List.getElem?_take_of_lt hj]; simp
 have hH : HoldsK enc 3 w p'.blk 0 l.toArray := by
  intro j hj
  have hj' : j < l.length * 3 := by simpa using hj
  have := SL' l.toArray j (by simpa using hj'); simp only [World.cell?, World.frozen?, g3, Nat.zero_add]
  refine ⟨?_, by simp⟩
  show arr[j]? = _; rw [hcell j hj']; exact this
 have hlt : p'.blk < w.heap.size := (Array.getElem?_eq_some_iff.1 g3).1; have eg : ∀ args w, (callFunc H0' args).run Θ w = .ok (.enter H0' args) w := enters_of Try.func49 χ rfl; have hcon := AnyQ.slices_SortFunc Try.sortIt 3 Try.isAgg71 Try.sizeOf71 enc enc_length (fun x v hv => by simp [enc] at hv; rcases hv with rfl | rfl | rfl <;> rfl) cmpI U9' H0' #[] p'.blk 0 cc l.toArray w eg (eU' p'.blk 0 l.toArray.size w) hH hlt (by simpa using hb); change Calls Θ HN' _ _ _ at hcon
 have hsl : l.toArray.size = l.length := by simp
 rw [hsl] at hcon; refine hcon.mono ?_; rintro e w' ⟨rfl, d', n, os, k1, k2, rfl⟩; have hd : d'.toList = L := UD' hp hs (by rw [hsl]; exact k1) (by rw [hsl]; exact k2)
 have hds : d'.size = l.length := by rw [<- hsl]; exact k1.1
 have hLl : L.length = l.length := hp.length_eq.symm
 refine ⟨.tuple #[], rfl, N, fun i _ => rfl, fun j hj hg => hN j hj ?_, ?_, ?_⟩
 ·have e : j ≠ 0 := ω
  rw [getO, if_neg e]; rfl
 ·refine Rep.heap (Rep.turn (o' := .cells (rowV enc L) tIt) r (hfo _) rfl rfl rfl fun D hD => ?_) fun i => ?_
  ·obtain ⟨p2, arr2, fz2, d1, d2, d3, d4, d5, d6, d7, d8⟩ := hD
   obtain rfl : p2 = p' := by rw [q1] at d1; cases d1; rfl
   rw [g3] at d3
   have hheap : ∀ b, b < w.heap.size -> (sortWorldK enc 3 w p2.blk 0 n d' os).heap[b]? = (w.heap.modify p2.blk (onCells (putCells id 0 (flatK enc 3 d'))))[b]? := fun b hb => by
    show (w.heap.modify _ _ ++ os)[b]? = _; rw [Array.getElem?_append_left (by simpa using hb)]
   refine ⟨fun b hb hnb => ?_, D, ⟨p2, putCells id 0 (flatK enc 3 d') arr, (0, 0), q1, d2, ?_, ?_, ?_, Or.inl rfl, ?_, fun _ => ⟨g9, rfl⟩⟩, fun b hb => Or.inl hb⟩
   ·have hne : p2.blk ≠ b := fun e => hnb ((d2 b).2 e.symm)
    rw [hheap b hb, Array.getElem?_modify, if_neg hne]
   ·rw [hheap _ hlt, Array.getElem?_modify, if_pos rfl, g3]; rfl
   ·simpa [putCells] using g4
   ·rw [B9' enc_length, hLl]; exact g5
   ·rw [B9' enc_length, hLl, g9, List.drop_zero]
    have : (putCells id 0 (flatK enc 3 d') arr).toList.take (l.length * 3) = L.flatMap enc := by
     apply List.ext_getElem?; intro j
     by_cases hj : j < l.length * 3
     ·rw [List.getElem?_take_of_lt hj, <- hd, SL' d' j (by rw [hds]; exact hj), Array.getElem?_toList, putCells, Array.getElem?_mapIdx, Array.getElem?_eq_getElem ω]
      have hc : 0 <= j /\ j < 0 + (flatK enc 3 d').size := ⟨Nat.zero_le _, by rw [size_flatK, hds]; omega⟩
      simp only [Option.map_some, if_pos hc, Nat.sub_zero, id]
     ·rw [List.getElem?_eq_none (by rw [List.length_take]; omega), List.getElem?_eq_none (by rw [ZL', hLl]; omega)]
    rw [this]; exact VRs.vmap _
  ·rw [T.find_set δ]
   by_cases hi : i = 0
   ·subst hi; rw [if_pos rfl, hfo]; rfl
   ·rw [if_neg hi, hfn _ _ hi, hfn _ _ hi]
 ·simp [VRs, VR]
abbrev _root_.Go.Proofs.Ytjjjchmkonnpfaa.BB' : Nat := 32
def a0' (l L : List It) : List AV -> Option (AP AV) := fun args => match args with
 | [.slice i 0 n 3 c, .v f] => some (.need (n = l.length) (useC (fun _ => i) [.slice 0 0 l.length 3 c, sF] args [(0, .cells (rowV enc l) tIt)] (.leaf .ret [.tuple []] [(0, .cells (rowV enc L) tIt)])))
 | _ => some (.fail "sort")
def SQ' : List AV -> Option (AP AV) := fun args => match args with
 | [.v (.slice none 0 0), .v f] => some (useC (fun i => i) [.v (.slice none 0 0), sF] args [] (.leaf .ret [.tuple []] []))
 | _ => some (.fail "sort")
theorem T8' (s : Ps) (L : List It) (F : HP) : oRun [(HN', a0' s.xs L)] AF' [] BB' [.ptr 0 0] (pL s) [0, 1001, 1002, 1100, 1101, 1102] F = VT.ite false (VT.bad "sort") (VT.leaf (AV.slice 1101 0 (0 + s.xs.length) 3 (Cp.lo (0 + s.xs.length))) [some (ce' [AV.slice 1001 0 s.xs.length 3 (Cp.lo (s.xs.length + s.g.length)),AV.map 1002] 170),some (ce' (rowV enc (s.xs ++ s.g)) 142),some (AO.map (mE iv s.m) s.ck),some (ce' (rep [i' 0,i' 0,i' 0] 0) 142),some (ce' (AV.rens (sgN (fun x => 1101) [] 0) (rowV enc L)) 142),none] 1102 (k12'.a ((((p' (s.xs.length.ble s.xs.length = true)).a ((p' ((List.take (s.xs.length * 3) (List.drop 0 (rowV enc (s.xs ++ s.g)))).length.beq (s.xs.length * 3) = true)).a ((p' ((List.take (s.xs.length * 3) (List.drop 0 (rowV enc (s.xs ++ s.g)))).all AV.one = true)).a ((p' (Nat.blt 0 s.xs.length = true)).a (tt'.a ((p' (((0 + s.xs.length) * 24).ble 140737488355328 = true)).a ((p' ((0 + s.xs.length).ble 9223372036854775807 = true)).a (tt'.a (f' (Nat.blt 0 (0 + s.xs.length) = true)))))))))).a t').a (((p' (0 + s.xs.length = s.xs.length)).a ((p' (VW [AV.slice 1101 0 (0 + s.xs.length) 3 (Cp.lo (0 + s.xs.length)),AV.v (Value.func (Fn.func 49) (Array.mk []) (Array.mk []))] [AV.slice 1101 0 s.xs.length 3 (Cp.lo (0 + s.xs.length)),AV.v (Value.func (Fn.func 49) (Array.mk []) (Array.mk []))])).a (f' (OW (ce' ([] ++ List.take (s.xs.length * 3) (List.drop 0 (rowV enc (s.xs ++ s.g)))) 142) (ce' (AV.rens (fun x => 1101) (rowV enc s.xs)) 142))))).a k1')))) := χ
theorem QN' (F : HP) : oRun [(HN', SQ')] AF' [] BB' [.ptr 0 0] pL0 [0, 1002] F = VT.ite true (VT.leaf (e') [some (ce' [e',AV.map 1002] 170),some (AO.map [] 0)] 1100 (k12'.a ((f' (VW [e',AV.v (Value.func (Fn.func 49) (Array.mk []) (Array.mk []))] [e',AV.v (Value.func (Fn.func 49) (Array.mk []) (Array.mk []))])).a k1'))) (VT.bad "sort") := χ
theorem ZZ' (l L : List It) (h0 : 0 < l.length) (hb : l.length < 4611686018427387904) (hp : l.Perm L) (hs : Sortd L) (F : HP) : C1OK Θ F HN' (a0' l L) := by
 intro st W0 N h w args vargs v h' n n' lg lg' c p hp1 he hc r ha hf; unfold a0' at hp1; split at hp1
 ·rename_i i m cp f; cases hp1; obtain ⟨c0, he0, rfl⟩ := AA' he; obtain ⟨hn, hc0⟩ := (Cnd.and_iff _ _).1 hc
  have hcl : ClosedC [.slice 0 0 l.length 3 cp, sF] [(0, .cells (rowV enc l) tIt)] [.tuple []] [(0, .cells (rowV enc L) tIt)] := ⟨rfl, rfl, ⟨rfl, Ye, Ye⟩, (fun x hx => by simp only [List.mem_singleton] at hx; subst hx; exact DP' _ _), ⟨Ye, Ye⟩, fun x hx => by simp only [List.mem_singleton] at hx; subst hx; exact DP' _ _⟩
  exact DR' B8' (XU' l L cp h0 hb hp hs) rfl hcl he0 hc0 r ha hf
 ·cases hp1; exact (A1' he).elim
theorem UF' : Tri Θ default HN' [.v (.slice none 0 0), sF] [] (.tuple []) [] := by
 intro W0 F N w vargs _ hN r hv; simp only [VRs, sF] at hv; obtain ⟨y1, r1, hy1, ⟨y2, r2, hy2, rfl, rfl⟩, hvl⟩ := hv
 obtain rfl : vargs = #[y1, y2] := by cases vargs; simp_all
 simp only [VR] at hy1 hy2; subst hy1 hy2; have hcon := AnyF.slices_SortFunc_none Try.sortIt none 0 (.func (.func H0') #[] #[]) w; change Calls Θ HN' _ _ _ at hcon; refine hcon.mono ?_; rintro e w' ⟨rfl, rfl⟩
 exact ⟨.tuple #[], rfl, N, fun i _ => rfl, hN, r, by simp [VRs, VR]⟩
theorem WX' (F : HP) : C1OK Θ F HN' SQ' := by
 intro st W0 N h w args vargs v h' n n' lg lg' c p hp1 he hc r ha hf; unfold SQ' at hp1; split at hp1
 ·rename_i f; cases hp1
  have hcl : ClosedC [.v (.slice none 0 0), sF] [] [.tuple []] [] := ⟨rfl, rfl, ⟨Ye, Ye, Ye⟩, (fun x hx => by cases hx), ⟨Ye, Ye⟩, fun x hx => by cases hx⟩
  exact DR' B8' UF' rfl hcl he hc r ha hf
 ·cases hp1; exact (A1' he).elim
theorem VX' (s : Ps) (L : List It) (hP : PI s) (h0 : 0 < s.xs.length) (hp : s.xs.Perm L) (hs : Sortd L) : Tri Θ default BB' [.ptr 0 0] [(0, pO s)] (.slice 1000 0 L.length 3 (.lo L.length)) [(0, pO s), (1000, .cells (rowV enc L) tIt)] := by
 have hb := hP.big; have hL : L.length = s.xs.length := hp.length_eq.symm
 have hx : List.take (s.xs.length * 3) (List.drop 0 (rowV enc (s.xs ++ s.g))) = rowV enc s.xs := by
  rw [List.drop_zero, EQ' enc_length]; simp
 refine CK' (AK' (con := [(HN', a0' s.xs L)]) (hints := AF') (lc := []) [0, 1001, 1002, 1100, 1101, 1102] rfl (P0' (ZZ' s.xs L h0 ω hp hs)) noL fun F => ?_)
 rw [T8']
 refine ⟨fun h => (by cases h), fun _ => ⟨?_, ?_⟩⟩
 ·rw [hx]
  simp only [Cnd.holds, List.nil_append, Nat.zero_add]; and_intros; all_goals first | exact Ye | exact Yb | exact OW.of_eq (by rw [BG']) | rfl | exact Y7' (fun _ => rfl) _ | (simp only [B9' enc_length, Nat.beq_refl]) | (simp only [Nat.ble_eq, Nat.blt_eq]; omega)
 ·have hgo : Goes [AV.slice 1000 0 L.length 3 (.lo L.length)] (pL s ++ [(1000, .cells (rowV enc L) tIt)]) [AV.slice 1000 0 L.length 3 (.lo L.length)] ((0, pO s) :: [(1000, .cells (rowV enc L) tIt)]) :=
   Goes.shut (σ := Unit) (R := fun _ => True) (L := fun _ => pL s) (m := .pile s) (H0 := [(1000, .cells (rowV enc L) tIt)]) () trivial rfl ⟨_, _, rfl, rfl⟩ ⟨rfl, Ye⟩ (fun x hx => by simp only [List.mem_singleton] at hx; subst hx; exact DP' _ _)
  refine ⟨[.slice 1000 0 L.length 3 (.lo L.length)], (pL s ++ [((1000 : Nat), ce' (rowV enc L) tIt)] : LH), [(1001, 1001), (1002, 1002), (1000, 1101)], rfl, B2' _ χ χ ?_ ⟨⟨_, rfl, Yc⟩, ⟨_, rfl, OW.of_eq ?_⟩, ⟨_, rfl, OW.of_eq ?_⟩, ⟨_, rfl, OW.of_eq ?_⟩, Ye⟩, hgo⟩
  ·rw [hL, Nat.zero_add]; exact Yb
  ·show ce' _ _ = ce' (AV.rens _ _) _; rw [BG']
  ·show AO.map _ _ = AO.map (renE _ _) _; rw [NG']
  ·show ce' (AV.rens _ _) _ = ce' (AV.rens _ _) _; rw [BG', BG']
theorem TH' : Tri Θ default BB' [.ptr 0 0] [(0, pO0)] (.v (.slice none 0 0)) [(0, pO0)] := by
 refine DQ' (AK' (con := [(HN', SQ')]) (hints := AF') (lc := []) [0, 1002] rfl (P0' WX') noL fun F => ?_); rw [QN']
 refine ⟨fun _ => ⟨?_, HB' [(1002, 1002)] χ χ (Yb) ⟨Ye, Ye⟩ ⟨⟨_, rfl, Yc⟩, ⟨_, rfl, Yc⟩, Ye⟩⟩, fun h => (by cases h)⟩
 simp only [Cnd.holds]; and_intros; all_goals first | exact Ye | exact Yb | rfl
theorem goes_ow2 {vs : List AV} {i : Nat} {o o' : AO} {H0 : LH} (hb : ∀ a, A6' T.limit ((i, a) :: H0) = true) (h : OW o o') : Goes vs ((i, o) :: H0) vs ((i, o') :: H0) := by
 intro W0 F N ys w ⟨N', g1, g2, r, hv⟩
 have hf : ∀ (a : AO) j, (AD' ((i, a) :: H0)).find j = if j = i then some a else getO H0 j := fun a j => by
  rw [A8' (hb a), getO]
 refine ⟨N', g1, fun j hj hg => g2 j hj ?_, ?_, hv⟩
 ·rw [getO] at hg ⊢; split at hg
  ·cases hg
  ·rename_i e; rw [if_neg e]; exact hg
 ·obtain ⟨D0, D, h1, h2, h3⟩ := r.sat
  have q : ∀ j b, (AD' ((i, o') :: H0)).find j = some b -> ∃ b2, (AD' ((i, o) :: H0)).find j = some b2 := fun j b hj => by
   rw [hf] at hj ⊢; split at hj
   ·rename_i e; exact ⟨o, by rw [if_pos e]⟩
   ·rename_i e; exact ⟨b, by rw [if_neg e]; exact hj⟩
  refine ⟨r.os, r.tape, r.output, D0, D, h1, fun j b hj => ?_, fun j k b b' hj hk hjk => ?_⟩
  ·rw [hf] at hj; split at hj
   ·rename_i e; cases hj; subst e; have := h2 j o (by rw [hf, if_pos rfl]); exact ⟨h _ _ _ _ this.1, this.2⟩
   ·rename_i e; exact h2 j b (by rw [hf, if_neg e]; exact hj)
  ·obtain ⟨b2, hb2⟩ := q j b hj; obtain ⟨b3, hb3⟩ := q k b' hk; exact h3 j k b2 b3 hb2 hb3 hjk
theorem Aitems_tri (L : List It) (hL : L ≠ []) : Tri Θ default BB' [.ptr 0 0] [(0, lO L)] (.slice 1000 0 L.length 3 (.lo L.length)) [(0, lO L), (1000, .cells (rowV enc L) tIt)] := by
 refine GW' ⟨rfl, Ye⟩ (fun s hs => ?_) (fun e => absurd e hL)
 have h0 : 0 < s.xs.length := by
  rw [hs.len]; exact List.length_pos_iff.2 hL
 exact Tri.post (VX' s L hs.pi h0 hs.perm.symm hs.sorted) (goes_ow2 (fun _ => rfl) (GU' hs))
end Go.Proofs.Ytjjjchmkonnpfaa.Rk
namespace Go.Proofs.Ytjjjchmkonnpfaa.Eng
open Go Go.RowKit
variable {H H' : LH}
theorem KH' : ∀ (H H' : LH) (i : Nat), getO (H ++ H') i = match getO H i with | some o => some o | none => getO H' i
 | [], H', i => rfl
 | x :: l, H', i => by
  rw [List.cons_append, getO, getO]
  by_cases e : i = x.1
  ·rw [if_pos e, if_pos e]
  ·rw [if_neg e, if_neg e]; exact KH' l H' i
theorem QP' {b : Nat} (h : A6' b H = true) (h' : A6' b H' = true) : A6' b (H ++ H') = true := by
 simp only [A6', List.all_append, Bool.and_eq_true] at *; exact ⟨h, h'⟩
theorem XZ' {W0 w w' : World} {F : HP} {N N1 : A4'} (hl : A6' 1100 H = true) (hl' : A6' 1100 H' = true) (hd : ∀ i o, getO H' i = some o -> 1000 <= i /\ getO H i = none)
  (hNB : NB N H) (r : Rep W0 N F (AD' H) w) (g0 : ∀ i, i < 1000 -> N1 i = none) (g1 : NB N1 H') (r1 : Rep w N1 (HP.old w) (AD' H') w') :
  ∃ N2 : A4', (∀ i, i < 1000 -> N2 i = N i) /\ NB N2 (H ++ H') /\ Rep W0 N2 F (AD' (H ++ H')) w' /\ N.le N2 /\ N1.le N2 := by
 have hf : ∀ i, (AD' H).find i = getO H i := A8' (EV' hl); have hf' : ∀ i, (AD' H').find i = getO H' i := A8' (EV' hl'); have hf2 : ∀ i, (AD' (H ++ H')).find i = getO (H ++ H') i := A8' (EV' (QP' hl hl')); have hb := r1.old_below; have rb := r.below hb
 have hN : N.le (fun i => if (getO H' i).isSome then N1 i else N i) := fun i l hi => by
  cases h : getO H' i with
  | none => simpa [h] using hi
  | some o =>
   have := hNB i (hd i o h).1 (hd i o h).2; rw [this] at hi; cases hi
 have hN1 : N1.le (fun i => if (getO H' i).isSome then N1 i else N i) := fun i l hi => by
  cases h : getO H' i with
  | some o => simpa [h] using hi
  | none =>
   rcases Nat.lt_or_ge i 1000 with h2 | h2
   ·rw [g0 i h2] at hi; cases hi
   ·rw [g1 i h2 h] at hi; cases hi
 refine ⟨_, fun i hi => ?_, fun i hi hn => ?_, ?_, hN, hN1⟩
 ·have h : getO H' i = none := by
   cases h : getO H' i with
   | none => rfl
   | some o => have := (hd i o h).1; omega
  simp [h]
 ·rw [KH'] at hn
  cases h : getO H i with
  | some o => rw [h] at hn; cases hn
  | none =>
   rw [h] at hn; simp only at hn; simpa [hn] using hNB i hi h
 ·obtain ⟨D0, D, h1, h2, h3⟩ := r.sat; obtain ⟨B0, B, k1, k2, k3⟩ := r1.sat; have hB0 : ∀ b, B0 b ↔ b < w.heap.size := k1.1
  have lt : ∀ i o, getO H i = some o -> ∀ b, D i b -> b < w.heap.size := fun i o hi b hb => ((h2 i o ((hf i).trans hi)).1.lt b hb)
  have ge : ∀ i o, getO H' i = some o -> ∀ b, B i b -> w.heap.size <= b := fun i o hi b hb' => by
   have := (k2 i o ((hf' i).trans hi)).2 b hb'; rw [hB0] at this; omega
  refine ⟨hb.os.trans r.os, hb.tape.trans r.tape, hb.output.trans r.output, D0, fun i b => if (getO H' i).isSome then B i b else D i b, F.far (fun b hb' => hb.block b (F.lt h1 b hb')) h1, fun i o hi => ?_, fun i j o o' hi hj hij b hbi hbj => ?_⟩
  ·rw [hf2, KH'] at hi
   cases h : getO H' i with
   | some o1 =>
    rw [(hd i o1 h).2] at hi; simp only [h, Option.some.injEq] at hi; subst hi; show OR _ i o1 (fun b => if (getO H' i).isSome then B i b else D i b) w' /\ ∀ b, (if (getO H' i).isSome then B i b else D i b) -> ¬ D0 b; simp only [h, Option.isSome_some, if_true]
    refine ⟨((k2 i o1 ((hf' i).trans h)).1).mono hN1, fun b hb' h0 => ?_⟩
    have := ge i o1 h b hb'; have := F.lt h1 b h0; omega
   | none =>
    show OR _ i o (fun b => if (getO H' i).isSome then B i b else D i b) w' /\ ∀ b, (if (getO H' i).isSome then B i b else D i b) -> ¬ D0 b; simp only [h, Option.isSome_none, Bool.false_eq_true, if_false]
    cases hh : getO H i with
    | none => rw [hh] at hi; simp only [h] at hi; cases hi
    | some o1 =>
     rw [hh] at hi; cases hi; have hq := h2 i o ((hf i).trans hh); exact ⟨(hq.1.far (fun b hb' => hb.block b (hq.1.lt b hb'))).mono hN, hq.2⟩
  ·rw [hf2, KH'] at hi hj
   have side : ∀ i o b, (match getO H i with | some o => some o | none => getO H' i) = some o -> (if (getO H' i).isSome then B i b else D i b) -> (∃ o1, getO H' i = some o1 /\ B i b) \/ (getO H' i = none /\ getO H i = some o /\ D i b) := by
    intro i o b hi hb'
    cases h : getO H' i with
    | some o1 => rw [h] at hb'; exact .inl ⟨o1, rfl, by simpa using hb'⟩
    | none =>
     rw [h] at hb'
     cases hh : getO H i with
     | none => rw [hh] at hi; simp only [h] at hi; cases hi
     | some o2 => rw [hh] at hi; cases hi; exact .inr ⟨rfl, rfl, by simpa using hb'⟩
   rcases side i o b hi hbi with ⟨o1, q1, q2⟩ | ⟨q0, q1, q2⟩
   ·rcases side j o' b hj hbj with ⟨o2, p1, p2⟩ | ⟨p0, p1, p2⟩
    ·exact k3 i j o1 o2 ((hf' i).trans q1) ((hf' j).trans p1) hij b q2 p2
    ·have := ge i o1 q1 b q2; have := lt j o' p1 b p2; omega
   ·rcases side j o' b hj hbj with ⟨o2, p1, p2⟩ | ⟨p0, p1, p2⟩
    ·have := ge j o2 p1 b p2; have := lt i o q1 b q2; omega
    ·exact h3 i j o o' ((hf i).trans q1) ((hf j).trans p1) hij b q2 p2
theorem bP' {P : Program} {W : World} {f : FuncId} {A : List AV} {v : AV} (hl : A6' 1100 H = true) (hl' : A6' 1100 H' = true) (hd : ∀ i o, getO H' i = some o -> 1000 <= i /\ getO H i = none)
  (h : ∀ (W0 : World) (F : HP) (N : A4') (w : World) (vargs : Array Value), AP' W F -> NB N H -> Rep W0 N F (AD' H) w -> VRs N A vargs.toList -> ∃ A1, vargs.toList = A1 /\ Tri P w f (vmap A1) [] v H') : Tri P W f A H v (H ++ H') := by
 intro W0 F N w vargs hF hNB r ha; obtain ⟨A1, hA, ht⟩ := h W0 F N w vargs hF hNB r ha
 have hold : AP' w (HP.old w) := by
  intro D w' hF b o hv; have hF' : (HP.old w).on D w' := hF; rw [hF'.2 _ (Array.getElem?_eq_some_iff.1 hv).1]; exact hv
 refine (ht w (HP.old w) (fun _ => none) w vargs hold (fun _ _ _ => rfl) (NE' w) (by rw [hA]; exact VRs.vmap _)).mono ?_; rintro e w' ⟨y, rfl, N1, g0, g1, r1, hv⟩; obtain ⟨N2, q0, q1, q2, q3, q4⟩ := XZ' hl hl' hd hNB r g0 g1 r1; exact ⟨y, rfl, N2, q0, q1, q2, VRs.mono q4 hv⟩
end Go.Proofs.Ytjjjchmkonnpfaa.Eng
namespace Go.Proofs.Ytjjjchmkonnpfaa.Qb
open Go Go.RowKit Eng Kit Tree
open Rk (lO itA BZ' putL JQ')
variable {d : Nat} {FV TV : AV} {vs : List AV}
def er (c : Kc) : Kc := { c with ha := none, hc := 0, ta := none, tc := 0 }
def erM (m : IMap Kc) : IMap Kc := m.map fun e => (e.1, er e.2.1, e.2.2)
theorem IW' (k : Int) : ∀ (m : IMap Kc) (i : Nat), C6' k (erM m) i = (C6' k m i).map fun p => (p.1, er p.2)
 | [], i => rfl
 | e :: l, i => by
  show C6' k ((e.1, er e.2.1, e.2.2) :: erM l) i = _; rw [C6', C6']
  by_cases h : k = e.1
  ·simp only [h, if_true]; rfl
  ·simp only [h, if_false]; exact IW' k l (i + 1)
theorem SM' (k : Int) (m : IMap Kc) : AG' k (erM m) = (AG' k m).map er := by
 rw [<- CU' k _ 0, <- CU' k m 0, IW']
 cases C6' k m 0 <;> rfl
theorem eM' (m : IMap Kc) (ck : Nat) (k : Int) (c : Kc) : erM (mset m ck k c) = mset (erM m) ck k (er c) := by
 unfold mset; rw [IW']
 cases C6' k m 0 with
 | none => simp [erM]
 | some p => simp [erM, List.map_set, List.getElem?_map]; cases m[p.1]? <;> rfl
theorem ZO' (m : IMap Kc) (ck : Nat) (k : Int) : DY' (erM m) ck k = DY' m ck k := by
 unfold DY'; rw [IW']
 cases C6' k m 0 <;> rfl
theorem WF' (m : IMap Kc) (k : Int) : erM (mdel m k) = mdel (erM m) k := by
 unfold mdel; rw [IW']
 cases C6' k m 0 with
 | none => rfl
 | some p => simp [erM, List.eraseIdx_eq_take_drop_succ]
def PM (d : Nat) (m : IMap Kc) (C : Mem) : Prop := ∀ e ∈ m, KAt C d e.2.1
theorem PM.mono {m : IMap Kc} {C C' : Mem} (h : ∀ a v, C a = some v -> C' a = some v) (hp : PM d m C) : PM d m C' := fun e he => (hp e he).mono h
def withM (A : Qs) (m : IMap Kc) : Qs := { A with m := m }
def RQ (A : Qs) (s : Qs) : Prop := s = withM A s.m /\ erM s.m = A.m
def qL (d : Nat) (s : Qs) : LH := uQ s (PM d s.m)
def qO (d : Nat) (A : Qs) : AO := .own .nothing (exHP (RQ A) (qL d))
theorem L7' (K : Nat -> Bool) : ∀ m : IMap Kc, clE K (mE aggK m)
 | [] => trivial
 | e :: m => ⟨Ye, ⟨Ye, Ye, Ye, Ye, Ye, Ye, Ye, Ye, Ye, Ye, Ye, Ye, Ye, Ye, Ye, Ye, Ye, Ye, Ye, Ye, Ye, Ye, Ye, Ye, Ye, Ye⟩, L7' K m⟩
theorem IP' (K : Nat -> Bool) : ∀ m : IMap Int, clE K (mE iv m)
 | [] => trivial
 | e :: m => ⟨Ye, Ye, IP' K m⟩
theorem JL' (K : Nat -> Bool) (c : Kc) : AV.cl K (aggK c) := ⟨Ye, Ye, Ye, Ye, Ye, Ye, Ye, Ye, Ye, Ye, Ye, Ye, Ye, Ye, Ye, Ye, Ye, Ye, Ye, Ye, Ye, Ye, Ye, Ye, Ye, Ye⟩
theorem I9' {K : Nat -> Bool} (c : Kc) (h1 : AV.cl K FV) (h2 : AV.cl K TV) : AV.cl K (aggN c FV TV) := ⟨Ye, Ye, Ye, Ye, Ye, Ye, Ye, Ye, Ye, h1, Ye, Ye, Ye, Ye, Ye, Ye, Ye, Ye, Ye, Ye, Ye, Ye, h2, Ye, Ye, Ye⟩
theorem T4' (K : Nat -> Bool) (h : K 1001 = true /\ K 1003 = true /\ K 1004 = true) (c : Cf) (la : Int) : (qC c la).cl K := ⟨Ye, Ye, Ye, Ye, Ye, Ye, Ye, Ye, Ye, Ye, h.1, h.2.1, h.2.2, Ye, Ye, Ye⟩
theorem uQ_cl (K : Nat -> Bool) (h : K 1001 = true /\ K 1003 = true /\ K 1004 = true) (s : Qs) (P : Mem -> Prop) : ∀ x ∈ uQ s P, x.2.cl K :=
 A0' (T4' K h _ _) (A0' (L7' K _) (A0' Ye (A0' Ye (A0' (IP' K _) A2'))))
theorem uB_cl (K : Nat -> Bool) (h : K 1001 = true /\ K 1003 = true /\ K 1004 = true) (s : Qs) (P : Mem -> Prop) (c : Kc) : ∀ x ∈ uB s P c, x.2.cl K :=
 A0' (T4' K h _ _) (A0' (L7' K _) (A0' Ye (A0' Ye (A0' (IP' K _) (A0' (HF' K _) A2')))))
theorem L2' {W : World} {A : Qs} {f : FuncId} {Ar : List AV} {v : AV} {H' : LH} (h : ∀ s, RQ A s -> Tri Θ W f Ar (uQ s (PM d s.m)) v H') : Tri Θ W f Ar [(0, qO d A)] v H' :=
 Tri.open (σ := Qs) (R := RQ A) (L := qL d) (H0 := []) (fun s => (by kernel_rfl : ownL [] (uQ s (PM d s.m)) = true)) (fun s => uQ_cl _ ⟨rfl, rfl, rfl⟩ s _) (fun s => ⟨_, rfl⟩) fun s hs => by
  rw [List.append_nil]; exact h s hs
theorem aO' {P Q : Mem -> Prop} (h : ∀ C, P C -> Q C) : OW (.any (frz P)) (.any (frz Q)) := fun N i D w ⟨h1, h2⟩ => ⟨h _ h1, h2⟩
theorem ZH' {s : Qs} {P Q : Mem -> Prop} {H0 : LH} (hn : A6' 1100 (uQ s P ++ H0) = true) (h : ∀ C, P C -> Q C) : Goes vs (uQ s P ++ H0) vs (uQ s Q ++ H0) := by
 intro W0 F N ys w ⟨N', g1, g2, r, hv⟩; have hn' : A6' 1100 (uQ s Q ++ H0) = true := hn; have hf : ∀ i, (AD' (uQ s P ++ H0)).find i = getO (uQ s P ++ H0) i := A8' (EV' hn); have hf' : ∀ i, (AD' (uQ s Q ++ H0)).find i = getO (uQ s Q ++ H0) i := A8' (EV' hn')
 have hg : ∀ i o, getO (uQ s Q ++ H0) i = some o -> ∃ o', getO (uQ s P ++ H0) i = some o' /\ OW o' o := fun i o hi => by
  by_cases e : i = 1002
  ·subst e; obtain rfl : AO.any (frz Q) = o := Option.some.inj hi; exact ⟨_, rfl, aO' h⟩
  ·refine ⟨o, ?_, Yc⟩; simp only [uQ, List.cons_append, List.nil_append, getO, if_neg e] at hi ⊢; exact hi
 refine ⟨N', g1, fun i hi hgn => g2 i hi ?_, ?_, hv⟩
 ·by_cases e : i = 1002
  ·subst e; cases hgn
  ·simp only [uQ, List.cons_append, List.nil_append, getO, if_neg e] at hgn ⊢; exact hgn
 ·obtain ⟨D0, D, h1, h2, h3⟩ := r.sat
  refine ⟨r.os, r.tape, r.output, D0, D, h1, fun i o hi => ?_, fun i j o o' hi hj hij => ?_⟩
  ·rw [hf'] at hi; obtain ⟨o', q1, q2⟩ := hg i o hi; have := h2 i o' (by rw [hf]; exact q1); exact ⟨q2 _ _ _ _ this.1, this.2⟩
  ·rw [hf'] at hi hj; obtain ⟨o1, q1, _⟩ := hg i o hi; obtain ⟨o2, q2, _⟩ := hg j o' hj; exact h3 i j o1 o2 (by rw [hf]; exact q1) (by rw [hf]; exact q2) hij
theorem UH' {A : Qs} {s : Qs} {P : Mem -> Prop} {H0 : LH} (hs : RQ A s) (hP : ∀ C, P C -> PM d s.m C) (hL : ownL H0 (uQ s (PM d s.m)) = true) (hn : A6' 1100 (uQ s P ++ H0) = true) (hv : AV.cls (fun i => Nat.blt i 1000 || (getO H0 i).isSome) vs) (ho : ∀ x ∈ H0, x.2.cl (fun i => Nat.blt i 1000 || (getO H0 i).isSome)) : Goes vs (uQ s P ++ H0) vs ((0, qO d A) :: H0) :=
 (ZH' hn hP).trans (Goes.shut (σ := Qs) (R := RQ A) (L := qL d) (m := .nothing) s hs hL ⟨_, _, rfl, rfl⟩ hv ho)
theorem LI' : ∀ args, RO (gP1 args) := by
 intro args; unfold gP1
 repeat' split
 all_goals exact Kb11'
theorem SR' {L : List It} (x : It) (hR : JQ' L) (F : HP) : C1OK Θ F D2' (LS' L x) :=
 BX' (W := default) B8' (fun _ => .v (.bool (!BZ' x.b L))) LI' (fun _ => rfl) (fun _ _ => Rk.Aput_tri L x hR) fun _ => ⟨rfl, rfl, ⟨rfl, ⟨Ye, Ye, Ye, Ye⟩, Ye⟩, A0' Ye A2', ⟨Ye, Ye⟩, A0' Ye A2'⟩
theorem a3' (L : List It) (F : HP) : C1OK Θ F DN' (TS' L) :=
 BX' (W := default) B8' (fun _ => .tuple [itA (L.headD Rk.It.zero), .v (.bool (!L.isEmpty))]) LI' (fun _ => rfl) (fun _ _ => Rk.Apop_tri L) fun _ => ⟨rfl, rfl, ⟨rfl, Ye⟩, A0' Ye A2', ⟨⟨⟨Ye, Ye, Ye, Ye⟩, Ye, Ye⟩, Ye⟩, A0' Ye A2'⟩
theorem a4' (L : List It) (F : HP) : C1OK Θ F DO' (f2' L) :=
 BX' (W := default) B8' (fun _ => iv (Int.ofNat L.length)) LI' (fun _ => rfl) (fun _ _ => Rk.Alen_tri L) fun _ => ⟨rfl, rfl, ⟨rfl, Ye⟩, A0' Ye A2', ⟨Ye, Ye⟩, A0' Ye A2'⟩
theorem tO_raw {N : A4'} {k : Nat} {D : Nat -> Prop} {w : World} : ∀ {l : List Δ} {y : Value}, l.length * 16 <= big -> OR N k (tOd l) D w -> VR N (tVk k l) y -> ∃ ta tc, y = .slice ta l.length tc /\ SAt (CB' D w) ta l
 | [], y, _, _, h => by
  simp only [tVk, VR] at h; obtain ⟨a, rfl⟩ := h
  exact ⟨_, _, rfl, Nat.zero_le _, fun i t ht => by simp at ht⟩
 | v :: l, y, hb, ho, h => by
  obtain ⟨lo, x, c, h1, rfl, h3⟩ := IH' h; obtain ⟨lo', h1', h0, h2⟩ := LR' (cs := (v :: l).map Value.string) ho; rw [h1] at h1'; cases h1'
  refine ⟨_, _, rfl, hb, fun i t ht => ⟨_, rfl, ?_⟩⟩
  rw [h3 (Nat.succ_pos _), h0]; have hq := h2 i (.string t) (by rw [List.getElem?_map, ht]; rfl)
  have e : ((Addr.mk lo.blk 0 none).add i) = Addr.mk lo.blk i none := by
   unfold Addr.add; split
   ·rename_i hi; subst hi; rfl
   ·show Addr.mk lo.blk (0 + i) none = _; rw [Nat.zero_add]
  rw [e]; exact hq
theorem cCd_ok {W : World} {c : Kc} (h : KAt W.cell? d c) (F : HP) (hF : AP' W F) : C1OK Θ F fCd (cCd c (fV c.f) (tV c.tr) (fOd d c.f) (tOd c.tr)) :=
 BX' hF (fun _ => aggN c (fV c.f) (tV c.tr)) (fun _ => RO.ret _) (fun _ => rfl) (fun _ _ => MU' W d c h) fun _ => ⟨rfl, rfl, ⟨JL' _ _, Ye⟩, A2', ⟨I9' _ (W9' rfl _) (bQ' rfl _), Ye⟩, A0' (WA' _ _ _) (A0' (bR' _ _) A2')⟩
theorem LO' (d : Nat) (c : Kc) (P : Mem -> Prop) (hP : ∀ C, P C -> KAt C d c) : Tri Θ default fCd [aggK c] [(0, .any (frz P))] (aggN c (fV c.f) (tV c.tr)) [(0, .any (frz P)), (1007, fOd d c.f), (1008, tOd c.tr)] := by
 refine bP' (H := [(0, .any (frz P))]) (H' := [(1007, fOd d c.f), (1008, tOd c.tr)]) rfl rfl (fun i x h => by
  simp only [getO] at h ⊢
  by_cases e : i = 1007
  ·subst e; exact ⟨δ, by simp⟩
  ·rw [if_neg e] at h
   by_cases e' : i = 1008
   ·subst e'; exact ⟨δ, by simp⟩
   ·rw [if_neg e'] at h; cases h) fun W0 F N w vargs hF hNB r ha => ?_
 simp only [VRs] at ha; obtain ⟨y1, r1, h1, rfl, hl⟩ := ha
 have hfo : (AD' [(0, AO.any (frz P))]).find 0 = some (.any (frz P)) := by rw [A8' χ, getO, if_pos rfl]
 obtain ⟨D, hO⟩ := r.obj hfo; have hp : P (CB' D w) := hO.1
 have hy : y1 = .agg c.cells.toArray := by
  have h1' : VR N (.agg (vmap c.cells)) y1 := h1; simp only [VR] at h1'; obtain ⟨cs, q1, q2⟩ := h1'; rw [q2, VRs.of_vmap q1]
 refine ⟨[y1], hl, ?_⟩; have := MU' w d c ((hP _ hp).mono fun a v h => (JB' h).2); rw [hy]; intro W1 F1 N1 w1 vargs1 hF1 hN1 r1 ha1; refine this W1 F1 N1 w1 vargs1 hF1 hN1 r1 ?_; rw [VRs.of_vmap (l := [.agg c.cells.toArray]) ha1]; refine A9'.2 ⟨?_, AT'⟩; show VR N1 (.agg (vmap c.cells)) _; simp only [VR]; exact ⟨_, VRs.vmap _, rfl⟩
theorem LH' {vs' : List AV} {H H' : LH} (hn : A6' 1100 H = true) (hn' : A6' 1100 H' = true) (hv : VW vs vs') (hh : ∀ i o, getO H' i = some o -> getO H i = some o) (hc : AV.cls (fun i => Nat.blt i 1000 || (getO H' i).isSome) vs') (ho : ∀ x ∈ H', x.2.cl (fun i => Nat.blt i 1000 || (getO H' i).isSome)) : Goes vs H vs' H' := by
 intro W0 F N ys w ⟨N', g1, g2, r, hvs⟩; have hf : ∀ i, (AD' H).find i = getO H i := A8' (EV' hn); have hf' : ∀ i, (AD' H').find i = getO H' i := A8' (EV' hn'); obtain ⟨D0, D, h1, h2, h3⟩ := r.sat
 have r' : Rep W0 N' F (AD' H') w := ⟨r.os, r.tape, r.output, D0, D, h1, fun i o hi => h2 i o (by rw [hf'] at hi; rw [hf]; exact hh i o hi), fun i j o o' hi hj => h3 i j o o' (by rw [hf'] at hi; rw [hf]; exact hh i o hi) (by rw [hf'] at hj; rw [hf]; exact hh j o' hj)⟩
 exact I1' hn' g1 r' (hv _ _ hvs) hc ho
def isSl (x : AV) : Prop := ∀ (N : A4') (y : Value), VR N x y -> ∃ a n c, y = .slice a n c
theorem wk_un {x : AV} (h : isSl x) : Wk x .un := fun N y hy => by
 simp only [VR]; exact h N y hy
theorem sl_raw (a : Option Addr) (n c : Nat) : isSl (slV a n c) := fun N y hy => ⟨_, _, _, VR_v.1 hy⟩
theorem aF' (i o n z : Nat) (c : Cp) : isSl (.slice i o n z c) := fun N y hy => by
 simp only [VR] at hy; obtain ⟨l, x, c, _, h, _⟩ := hy; exact ⟨_, _, _, h⟩
theorem sl_mt : isSl .mt := fun N y hy => by
 simp only [VR] at hy; obtain ⟨a, h⟩ := hy; exact ⟨_, _, _, h⟩
theorem d2' (k : Nat) : ∀ f : Tf, isSl (fVk k f)
 | [] => sl_raw _ _ _
 | _ :: _ => aF' _ _ _ _ _
theorem d1' (k : Nat) : ∀ l : List Δ, isSl (tVk k l)
 | [] => sl_mt
 | _ :: _ => aF' _ _ _ _ _
theorem wk_agg {cs cs' : List AV} (h : VW cs cs') : Wk (.agg cs) (.agg cs') := fun N y hy => by
 simp only [VR] at hy ⊢; obtain ⟨r, h1, h2⟩ := hy; exact ⟨r, h _ _ h1, h2⟩
theorem wk_tup {cs cs' : List AV} (h : VW cs cs') : Wk (.tuple cs) (.tuple cs') := fun N y hy => by
 simp only [VR] at hy ⊢; obtain ⟨r, h1, h2⟩ := hy; exact ⟨r, h _ _ h1, h2⟩
theorem vw_N (c : Kc) (h1 : isSl FV) (h2 : isSl TV) : VW (C0' c FV TV) (C0' c .un .un) := by
 unfold C0'; exact VW.cons Ya (VW.cons Ya (VW.cons Ya (VW.cons Ya (VW.cons Ya (VW.cons Ya (VW.cons Ya (VW.cons Ya (VW.cons Ya (VW.cons (wk_un h1) (VW.cons Ya (VW.cons Ya (VW.cons Ya (VW.cons Ya (VW.cons Ya (VW.cons Ya (VW.cons Ya (VW.cons Ya (VW.cons Ya (VW.cons Ya (VW.cons Ya (VW.cons Ya (VW.cons (wk_un h2) (Yb)))))))))))))))))))))))
theorem bG' (c : Kc) (h1 : isSl FV) (h2 : isSl TV) : Wk (aggN c FV TV) (aggU c) := wk_agg (vw_N c h1 h2)
theorem QZ' (d : Nat) (c : Kc) (P : Mem -> Prop) (hP : ∀ C, P C -> KAt C d c) : Tri Θ default fCd [aggK c] [(0, .any (frz P))] (aggU c) [(0, .any (frz P))] :=
 Tri.post (LO' d c P hP) (LH' rfl rfl (VW.cons (bG' c (d2' _ _) (d1' _ _)) VW.nil) (fun i o h => by
  simp only [getO] at h ⊢
  by_cases e : i = 0
  ·rw [if_pos e] at h ⊢; exact h
  ·rw [if_neg e] at h; cases h) ⟨I9' c trivial trivial, Ye⟩ (A0' Ye A2'))
theorem WZ' {c : Kc} {P : Mem -> Prop} (hP : ∀ C, P C -> KAt C d c) (F : HP) : C1OK Θ F fCd (cCr c P) :=
 BX' (W := default) B8' (fun _ => aggU c) (fun _ => RO.ret _) (fun _ => rfl) (fun _ _ => QZ' d c P hP) fun _ => ⟨rfl, rfl, ⟨JL' _ _, Ye⟩, A0' Ye A2', ⟨I9' c trivial trivial, Ye⟩, A0' Ye A2'⟩
end Go.Proofs.Ytjjjchmkonnpfaa.Qb
