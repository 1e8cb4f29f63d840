/- Parts of the proof, merged. -/
import Derived.Test.YtjjjchmkonnpfaaQpc2
import Derived.Shelf.SlSortCmp.InsertionK
import Derived.WalkKit
import Derived.Deep.Fields
import Derived.Test.YtjjjchmkonnpfaaRkShelf
import Derived.Shelf.SlSortCmp.WholeK
import Derived.Shelf.SlSortCmp.NoneTotal
import Derived.Test.YtjjjchmkonnpfaaEngFam
import Derived.Test.YtjjjchmkonnpfaaEngCon
import Derived.Test.YtjjjchmkonnpfaaShelf
import Derived.Test.YtjjjchmkonnpfaaEngSorted
import Derived.Test.YtjjjchmkonnpfaaEngIMap
noncomputable section
set_option linter.unusedVariables false
set_option linter.unusedSimpArgs false
set_option maxRecDepth 100000
set_option linter.unusedSectionVars false
namespace Go.Proofs.Ytjjjchmkonnpfaa.Rk
open Go Go.RowKit Eng Kit
open Int renaming ofNat -> o'
open Go.Value renaming int -> vi'
open Go.Value renaming bool -> vb'
open AO renaming cells -> ce'
open AV renaming v -> v'
open AV renaming ptr -> pt'
open Go.IntKind renaming i64 -> I'
open Cnd renaming holds -> ch'
open List renaming mem_cons_self -> ms'
variable {i n j : Nat} {v : AV} {o : AO} {A vs : List AV} {f : FuncId}
noncomputable section
def ownC (i : Nat) (k : Md -> AP AV) : AP AV := .read i fun o => match o with
 | .own m _ => k m
 | _ => .fail "own"
def KG' (s : Ps) (A args : List AV) (i : Nat) (v : AV) (o : AO) : AP AV := useC (fun _ => i) A args [(0, pO s)] (.leaf .ret [v] [(0, o)])
def gG' : List AV -> Option (AP AV) := fun args => match args with
  | [.ptr i 0, .v (.int .i64 a), .v (.int .i64 b)] => some (ownC i fun m => match m with
   | .pile s => .need (0 <= a /\ a.toNat < s.xs.length /\ 0 <= b /\ b.toNat < s.xs.length) (KG' s [.ptr 0 0, iv a, iv b] args i (.v (.bool (ahead (at' s a.toNat) (at' s b.toNat)))) (pO s))
   | _ => .fail "pile")
  | _ => none
def gC' : List AV -> Option (AP AV) := fun args => match args with
  | [.ptr i 0, .v (.int .i64 a), .v (.int .i64 b)] => some (ownC i fun m => match m with
   | .pile s => .need (0 <= a /\ a.toNat < s.xs.length /\ 0 <= b /\ b.toNat < s.xs.length /\ MI s.m s.ck) (KG' s [.ptr 0 0, iv a, iv b] args i (.tuple []) (pO (AE' s a.toNat b.toNat)))
   | _ => .fail "pile")
  | _ => none
def cLen : List AV -> Option (AP AV) := fun args => match args with
  | [.ptr i 0] => some (ownC i fun m => match m with
   | .pile s => KG' s [.ptr 0 0] args i (iv (o' s.xs.length)) (pO s)
   | .pile0 => useC (fun _ => i) [.ptr 0 0] args [(0, pO0)] (.leaf .ret [iv (o' 0)] [(0, pO0)])
   | _ => .fail "pile")
  | _ => none
def gE' : List AV -> Option (AP AV) := fun args => match args with
  | [.ptr i 0, .iface t (.agg [.v (.int .i64 a), .v (.int .i64 b), .v (.int .i64 c)])] => some (.need (t = 71) (ownC i fun m => match m with
   | .pile s => .need (Room s) (KG' s [.ptr 0 0, .iface 71 (itA ⟨a, b, c⟩)] args i (.tuple []) (pO (BH' s ⟨a, b, c⟩)))
   | .pile0 => useC (fun _ => i) [.ptr 0 0, .iface 71 (itA ⟨a, b, c⟩)] args [(0, pO0)] (.leaf .ret [.tuple []] [(0, pO (BH' ⟨[], [], [], 0⟩ ⟨a, b, c⟩))])
   | _ => .fail "pile"))
  | _ => none
def cPop : List AV -> Option (AP AV) := fun args => match args with
  | [.ptr i 0] => some (ownC i fun m => match m with
   | .pile s => .need (0 < s.xs.length /\ s.xs.length <= 9223372036854775807) (KG' s [.ptr 0 0] args i (.iface 71 (itA (at' s (s.xs.length - 1)))) (pO (popS s)))
   | _ => .fail "pile")
  | _ => none
def conP : List (FuncId × (List AV -> Option (AP AV))) := [(X0', gG'), (LX', gC'), (fLen, cLen), (CB', gE'), (fPop, cPop)]
def N8' : Code -> Option Code
 | .loop b => some b
 | .seq a b => match N8' a with | some c => some c | none => N8' b
 | .cond _ a b => match N8' a with | some c => some c | none => N8' b
 | .block _ b | .scope b => N8' b
 | _ => none
def E0' (f : FuncId) : Code := ((Θ.funcs[f]?).bind fun fn => fn.body.bind N8').getD .skip
abbrev fUp : Nat := 68
abbrev G3' : Nat := 62
def lRun (con : List (FuncId × (List AV -> Option (AP AV)))) (hints : AY') (lc : List (FuncId × Nat × Code × (List AV -> AP (AX × List AV)))) (g : FuncId) (b : Code) (A : List AV) (H : LH) (ks : List Nat) (F : HP) : VT (AX × List AV) := ((DH' Θ (env0 con hints lc F) 1000 g b A).run2 (AN' H) 1100 []).view ks
def hI : AV := .iface 96 (.ptr 0 0)
def upA (j : Nat) : List AV := hI :: iv (o' j) :: anys 21
def hUp (j : Nat) : AY' := AJ' [(fUp, 0, 2, hv (iv (o' ((j - 1) / 2))))]
abbrev k29' (q0 : Nat) : Cnd := (f' (Wk (z' (IntKind.i64.wrap ((IntKind.i64.wrap (o' q0 - o' 1)).tdiv (o' 2)))) (i' ((q0 - 1) / 2))))
abbrev k30' (q0 : Nat) (q1 : Ps) : Cnd := ((p' (o' 0 <= o' q0 /\ q0 < q1.xs.length /\ o' 0 <= o' ((q0 - 1) / 2) /\ (o' ((q0 - 1) / 2)).toNat < q1.xs.length)).a ((vw' [pt' 0 0,i' q0,i' ((q0 - 1) / 2)]).a (f' (OW (AO.own (Md.pile q1) (pH q1)) (AO.own (Md.pile q1) (pH q1))))))
theorem oUp_eq (s : Ps) (j : Nat) (F : HP) : lRun conP (hUp j) [] fUp (E0' fUp) (upA j) [(0, pO s)] [0] F = VT.ite (o' ((j - 1) / 2) == o' j) (VT.leaf (AX.exit 0,[AV.iface 96 (pt' 0 0),i' j,a',a',i' ((j - 1) / 2),i' j,z' (IntKind.i64.wrap (o' j - o' 1)),i' ((j - 1) / 2),i' ((j - 1) / 2),i' j,b' (o' ((j - 1) / 2) == o' j),j',u',u',u',u',u',j',a',a',a',a',a']) [some (AO.own (Md.pile s) (pH s))] 1100 ((k29' j).a k1')) (VT.ite (!ahead (at' s j) (at' s (o' ((j - 1) / 2)).toNat)) (VT.leaf (AX.exit 0,[AV.iface 96 (pt' 0 0),i' j,a',a',i' ((j - 1) / 2),i' j,z' (IntKind.i64.wrap (o' j - o' 1)),i' ((j - 1) / 2),i' ((j - 1) / 2),i' j,b' (o' ((j - 1) / 2) == o' j),g',AV.iface 96 (pt' 0 0),i' j,i' ((j - 1) / 2),b' (ahead (at' s j) (at' s (o' ((j - 1) / 2)).toNat)),v' (vb' !ahead (at' s j) (at' s (o' ((j - 1) / 2)).toNat)),j',a',a',a',a',a']) [some (AO.own (Md.pile s) (pH s))] 1100 ((k29' j).a ((k30' j s).a k1'))) (VT.leaf (AX.normal,[AV.iface 96 (pt' 0 0),i' ((j - 1) / 2),a',a',i' ((j - 1) / 2),i' j,z' (IntKind.i64.wrap (o' j - o' 1)),i' ((j - 1) / 2),i' ((j - 1) / 2),i' j,b' (o' ((j - 1) / 2) == o' j),g',AV.iface 96 (pt' 0 0),i' j,i' ((j - 1) / 2),b' (ahead (at' s j) (at' s (o' ((j - 1) / 2)).toNat)),v' (vb' !ahead (at' s j) (at' s (o' ((j - 1) / 2)).toNat)),g',AV.iface 96 (pt' 0 0),i' ((j - 1) / 2),i' j,AV.tuple [],i' ((j - 1) / 2)]) [some (AO.own (Md.pile (AE' s (o' ((j - 1) / 2)).toNat j)) (pH (AE' s (o' ((j - 1) / 2)).toNat j)))] 1100 ((k29' j).a ((k30' j s).a (((p' (o' 0 <= o' ((j - 1) / 2) /\ (o' ((j - 1) / 2)).toNat < s.xs.length /\ o' 0 <= o' j /\ j < s.xs.length /\ MI s.m s.ck)).a ((vw' [pt' 0 0,i' ((j - 1) / 2),i' j]).a (f' (OW (AO.own (Md.pile s) (pH s)) (AO.own (Md.pile s) (pH s)))))).a k1'))))) := χ
def upS (s : Ps) (j : Nat) : Ps := if h : j = 0 then s else if ahead (at' s j) (at' s ((j - 1) / 2)) = true then upS (AE' s ((j - 1) / 2) j) ((j - 1) / 2) else s
 termination_by j
 decreasing_by omega
def GZ' (i0 n i : Nat) : List AV := hI :: iv (o' i0) :: iv (o' n) :: .any :: .any :: .any :: .any :: iv (o' i) :: anys 40
def fX' (i : Nat) : AY' := AJ' [(G3', 2, 2, hv (iv (o' (2 * i + 1)))), (G3', 5, 1, hv (iv (o' (2 * i + 2))))]
abbrev k31' (q0 : Nat) : Cnd := (f' (Wk (z' (IntKind.i64.wrap (IntKind.i64.wrap (o' 2 * o' q0) + o' 1))) (i' (2 * q0 + 1))))
abbrev k32' (q0 : Nat) (q1 : Ps) : Cnd := ((p' (o' 0 <= o' (2 * q0 + 2) /\ (o' (2 * q0 + 2)).toNat < q1.xs.length /\ o' 0 <= o' q0 /\ q0 < q1.xs.length)).a ((vw' [pt' 0 0,i' (2 * q0 + 2),i' q0]).a (f' (OW (AO.own (Md.pile q1) (pH q1)) (AO.own (Md.pile q1) (pH q1))))))
abbrev h33' (q0 : Nat) (q1 : Ps) (z : Cnd) : Cnd := ((f' (Wk (z' (IntKind.i64.wrap (IntKind.i64.wrap (o' 2 * o' q0) + o' 1))) (i' (2 * q0 + 1)))).a ((f' (Wk (z' (IntKind.i64.wrap (o' (2 * q0 + 1) + o' 1))) (i' (2 * q0 + 2)))).a (((p' (o' 0 <= o' (2 * q0 + 2) /\ (o' (2 * q0 + 2)).toNat < q1.xs.length /\ o' 0 <= o' (2 * q0 + 1) /\ (o' (2 * q0 + 1)).toNat < q1.xs.length)).a ((vw' [pt' 0 0,i' (2 * q0 + 2),i' (2 * q0 + 1)]).a (f' (OW (AO.own (Md.pile q1) (pH q1)) (AO.own (Md.pile q1) (pH q1)))))).a z)))
abbrev k34' (q0 : Nat) (q1 : Ps) : Cnd := ((p' (o' 0 <= o' (2 * q0 + 1) /\ (o' (2 * q0 + 1)).toNat < q1.xs.length /\ o' 0 <= o' q0 /\ q0 < q1.xs.length)).a ((vw' [pt' 0 0,i' (2 * q0 + 1),i' q0]).a (f' (OW (AO.own (Md.pile q1) (pH q1)) (AO.own (Md.pile q1) (pH q1))))))
abbrev k35' (q0 : Nat) (q1 : Ps) : Cnd := ((p' (o' 0 <= o' q0 /\ q0 < q1.xs.length /\ o' 0 <= o' (2 * q0 + 1) /\ (o' (2 * q0 + 1)).toNat < q1.xs.length /\ MI q1.m q1.ck)).a ((vw' [pt' 0 0,i' q0,i' (2 * q0 + 1)]).a (f' (OW (AO.own (Md.pile q1) (pH q1)) (AO.own (Md.pile q1) (pH q1))))))
abbrev h36' (q0 : Nat) (z : Cnd) : Cnd := ((f' (Wk (z' (IntKind.i64.wrap (IntKind.i64.wrap (o' 2 * o' q0) + o' 1))) (i' (2 * q0 + 1)))).a ((f' (Wk (z' (IntKind.i64.wrap (o' (2 * q0 + 1) + o' 1))) (i' (2 * q0 + 2)))).a z))
theorem ZX' (s : Ps) (i0 n i : Nat) (F : HP) : lRun conP (fX' i) [] G3' (E0' G3') (GZ' i0 n i) [(0, pO s)] [0] F = VT.ite (decide (o' (2 * i + 1) >= o' n)) (VT.leaf (AX.exit 0,[AV.iface 96 (pt' 0 0),i' i0,i' n,a',a',a',a',i' i,i' (2 * i + 1),a',a',a',i' i,z' (IntKind.i64.wrap (o' 2 * o' i)),i' (2 * i + 1),i' (2 * i + 1),i' n,b' (decide (o' (2 * i + 1) >= o' n)),j',u',u',j',a',a',a',a',a',a',a',a',a',a',a',a',a',a',a',a',a',a',a',a',a',a',a',a',a',a']) [some (AO.own (Md.pile s) (pH s))] 1100 ((k31' i).a k1')) (VT.ite false (VT.leaf (AX.exit 0,[AV.iface 96 (pt' 0 0),i' i0,i' n,a',a',a',a',i' i,i' (2 * i + 1),a',a',a',i' i,z' (IntKind.i64.wrap (o' 2 * o' i)),i' (2 * i + 1),i' (2 * i + 1),i' n,b' (decide (o' (2 * i + 1) >= o' n)),g',i' (2 * i + 1),b' false,j',a',a',a',a',a',a',a',a',a',a',a',a',a',a',a',a',a',a',a',a',a',a',a',a',a',a']) [some (AO.own (Md.pile s) (pH s))] 1100 ((k31' i).a k1')) (VT.ite (decide (o' (2 * i + 2) < o' n)) (VT.ite (ahead (at' s (o' (2 * i + 2)).toNat) (at' s (o' (2 * i + 1)).toNat)) (VT.ite (!ahead (at' s (o' (2 * i + 2)).toNat) (at' s i)) (VT.leaf (AX.exit 0,[AV.iface 96 (pt' 0 0),i' i0,i' n,a',a',a',a',i' i,i' (2 * i + 1),i' (2 * i + 2),i' (2 * i + 2),a',i' i,z' (IntKind.i64.wrap (o' 2 * o' i)),i' (2 * i + 1),i' (2 * i + 1),i' n,b' (decide (o' (2 * i + 1) >= o' n)),g',i' (2 * i + 1),b' false,g',i' (2 * i + 1),i' (2 * i + 1),i' (2 * i + 2),i' (2 * i + 2),i' n,b' (decide (o' (2 * i + 2) < o' n)),j',AV.iface 96 (pt' 0 0),i' (2 * i + 2),i' (2 * i + 1),b' (ahead (at' s (o' (2 * i + 2)).toNat) (at' s (o' (2 * i + 1)).toNat)),j',i' (2 * i + 2),AV.iface 96 (pt' 0 0),i' (2 * i + 2),i' i,b' (ahead (at' s (o' (2 * i + 2)).toNat) (at' s i)),j',a',a',a',a',a',a',a',a']) [some (AO.own (Md.pile s) (pH s))] 1100 (h33' i s ((k32' i s).a k1'))) (VT.leaf (AX.normal,[AV.iface 96 (pt' 0 0),i' i0,i' n,a',a',a',a',i' (2 * i + 2),i' (2 * i + 1),i' (2 * i + 2),i' (2 * i + 2),a',i' i,z' (IntKind.i64.wrap (o' 2 * o' i)),i' (2 * i + 1),i' (2 * i + 1),i' n,b' (decide (o' (2 * i + 1) >= o' n)),g',i' (2 * i + 1),b' false,g',i' (2 * i + 1),i' (2 * i + 1),i' (2 * i + 2),i' (2 * i + 2),i' n,b' (decide (o' (2 * i + 2) < o' n)),j',AV.iface 96 (pt' 0 0),i' (2 * i + 2),i' (2 * i + 1),b' (ahead (at' s (o' (2 * i + 2)).toNat) (at' s (o' (2 * i + 1)).toNat)),j',i' (2 * i + 2),AV.iface 96 (pt' 0 0),i' (2 * i + 2),i' i,b' (ahead (at' s (o' (2 * i + 2)).toNat) (at' s i)),g',AV.iface 96 (pt' 0 0),i' i,i' (2 * i + 2),AV.tuple [],i' (2 * i + 2),a',a',a']) [some (AO.own (Md.pile (AE' s i (o' (2 * i + 2)).toNat)) (pH (AE' s i (o' (2 * i + 2)).toNat)))] 1100 (h33' i s ((k32' i s).a (((p' (o' 0 <= o' i /\ i < s.xs.length /\ o' 0 <= o' (2 * i + 2) /\ (o' (2 * i + 2)).toNat < s.xs.length /\ MI s.m s.ck)).a ((vw' [pt' 0 0,i' i,i' (2 * i + 2)]).a (f' (OW (AO.own (Md.pile s) (pH s)) (AO.own (Md.pile s) (pH s)))))).a k1'))))) (VT.ite (!ahead (at' s (o' (2 * i + 1)).toNat) (at' s i)) (VT.leaf (AX.exit 0,[AV.iface 96 (pt' 0 0),i' i0,i' n,a',a',a',a',i' i,i' (2 * i + 1),i' (2 * i + 1),i' (2 * i + 2),a',i' i,z' (IntKind.i64.wrap (o' 2 * o' i)),i' (2 * i + 1),i' (2 * i + 1),i' n,b' (decide (o' (2 * i + 1) >= o' n)),g',i' (2 * i + 1),b' false,g',i' (2 * i + 1),i' (2 * i + 1),i' (2 * i + 2),i' (2 * i + 2),i' n,b' (decide (o' (2 * i + 2) < o' n)),j',AV.iface 96 (pt' 0 0),i' (2 * i + 2),i' (2 * i + 1),b' (ahead (at' s (o' (2 * i + 2)).toNat) (at' s (o' (2 * i + 1)).toNat)),g',a',AV.iface 96 (pt' 0 0),i' (2 * i + 1),i' i,b' (ahead (at' s (o' (2 * i + 1)).toNat) (at' s i)),j',a',a',a',a',a',a',a',a']) [some (AO.own (Md.pile s) (pH s))] 1100 (h33' i s ((k34' i s).a k1'))) (VT.leaf (AX.normal,[AV.iface 96 (pt' 0 0),i' i0,i' n,a',a',a',a',i' (2 * i + 1),i' (2 * i + 1),i' (2 * i + 1),i' (2 * i + 2),a',i' i,z' (IntKind.i64.wrap (o' 2 * o' i)),i' (2 * i + 1),i' (2 * i + 1),i' n,b' (decide (o' (2 * i + 1) >= o' n)),g',i' (2 * i + 1),b' false,g',i' (2 * i + 1),i' (2 * i + 1),i' (2 * i + 2),i' (2 * i + 2),i' n,b' (decide (o' (2 * i + 2) < o' n)),j',AV.iface 96 (pt' 0 0),i' (2 * i + 2),i' (2 * i + 1),b' (ahead (at' s (o' (2 * i + 2)).toNat) (at' s (o' (2 * i + 1)).toNat)),g',a',AV.iface 96 (pt' 0 0),i' (2 * i + 1),i' i,b' (ahead (at' s (o' (2 * i + 1)).toNat) (at' s i)),g',AV.iface 96 (pt' 0 0),i' i,i' (2 * i + 1),AV.tuple [],i' (2 * i + 1),a',a',a']) [some (AO.own (Md.pile (AE' s i (o' (2 * i + 1)).toNat)) (pH (AE' s i (o' (2 * i + 1)).toNat)))] 1100 (h33' i s ((k34' i s).a ((k35' i s).a k1')))))) (VT.ite (!ahead (at' s (o' (2 * i + 1)).toNat) (at' s i)) (VT.leaf (AX.exit 0,[AV.iface 96 (pt' 0 0),i' i0,i' n,a',a',a',a',i' i,i' (2 * i + 1),i' (2 * i + 1),i' (2 * i + 2),a',i' i,z' (IntKind.i64.wrap (o' 2 * o' i)),i' (2 * i + 1),i' (2 * i + 1),i' n,b' (decide (o' (2 * i + 1) >= o' n)),g',i' (2 * i + 1),b' false,g',i' (2 * i + 1),i' (2 * i + 1),i' (2 * i + 2),i' (2 * i + 2),i' n,b' (decide (o' (2 * i + 2) < o' n)),g',u',u',u',u',g',a',AV.iface 96 (pt' 0 0),i' (2 * i + 1),i' i,b' (ahead (at' s (o' (2 * i + 1)).toNat) (at' s i)),j',a',a',a',a',a',a',a',a']) [some (AO.own (Md.pile s) (pH s))] 1100 (h36' i ((k34' i s).a k1'))) (VT.leaf (AX.normal,[AV.iface 96 (pt' 0 0),i' i0,i' n,a',a',a',a',i' (2 * i + 1),i' (2 * i + 1),i' (2 * i + 1),i' (2 * i + 2),a',i' i,z' (IntKind.i64.wrap (o' 2 * o' i)),i' (2 * i + 1),i' (2 * i + 1),i' n,b' (decide (o' (2 * i + 1) >= o' n)),g',i' (2 * i + 1),b' false,g',i' (2 * i + 1),i' (2 * i + 1),i' (2 * i + 2),i' (2 * i + 2),i' n,b' (decide (o' (2 * i + 2) < o' n)),g',u',u',u',u',g',a',AV.iface 96 (pt' 0 0),i' (2 * i + 1),i' i,b' (ahead (at' s (o' (2 * i + 1)).toNat) (at' s i)),g',AV.iface 96 (pt' 0 0),i' i,i' (2 * i + 1),AV.tuple [],i' (2 * i + 1),a',a',a']) [some (AO.own (Md.pile (AE' s i (o' (2 * i + 1)).toNat)) (pH (AE' s i (o' (2 * i + 1)).toNat)))] 1100 (h36' i ((k34' i s).a ((k35' i s).a k1'))))))) := χ
def BJ' (s : Ps) (i n : Nat) : Nat := if 2 * i + 2 < n /\ ahead (at' s (2 * i + 2)) (at' s (2 * i + 1)) = true then 2 * i + 2 else 2 * i + 1
theorem HY' (s : Ps) (i n : Nat) : i < BJ' s i n := by unfold BJ'; split <;> omega
def AI' (s : Ps) (i n : Nat) : Ps × Nat := if h : n <= 2 * i + 1 then (s, i) else if ahead (at' s (BJ' s i n)) (at' s i) = true then AI' (AE' s i (BJ' s i n)) (BJ' s i n) n else (s, i)
 termination_by n - i
 decreasing_by have := HY' s i n; omega
end
theorem GS' {k : Md -> AP AV} {st : Bool} {h h' : T} {n' : Nat} {lg lg' : Log} {c : Cnd} (he : (ownC i k).run st h n lg = .ok v h' n' lg' c) : ∃ m lg1, (k m).run st h n lg1 = .ok v h' n' lg' c := by
 obtain ⟨o, ho, he⟩ := B1' he; split at he
 ·exact ⟨_, _, he⟩
 ·exact (A1' he).elim
theorem RU' {o' : AO} (ha : AV.cls (kH [(0, o)]) A) (hv : AV.cls (kR [(0, o)] [(0, o')]) [v]) (ho : o.cl (kH [(0, o)])) (ho' : o'.cl (kR [(0, o)] [(0, o')])) : ClosedC A [(0, o)] [v] [(0, o')] :=
 ⟨rfl, rfl, ha, (fun x hx => by simp only [List.mem_singleton] at hx; subst hx; exact ho), hv, fun x hx => by simp only [List.mem_singleton] at hx; subst hx; exact ho'⟩
theorem EC' {F : HP} {s : Ps} {args : List AV} {v0 : AV} (ht : Tri Θ default f A [(0, pO s)] v0 [(0, o)]) (ha : AV.cls (kH [(0, pO s)]) A) (hv : AV.cls (kR [(0, pO s)] [(0, o)]) [v0]) (ho : o.cl (kR [(0, pO s)] [(0, o)]))
  {st : Bool} {W0 : World} {N : A3'} {h : T} {w : World} {vargs : Array Value} {h' : T} {n' : Nat} {lg lg' : Log} {c : Cnd} (he : (KG' s A args i v0 o).run st h n lg = .ok v h' n' lg' c) (hc : c.holds)
  (r : Rep W0 N F h w) (hargs : VRs N args vargs.toList) (hf : BX' N n n') : Calls Θ f vargs w (I5' W0 F N v h' n n') :=
 DT' B6' ht rfl (RU' ha hv trivial ho) he hc r hargs hf
theorem b3' (F : HP) : C1OK Θ F X0' gG' := by
 intro st W0 N h w args vargs v h' n n' lg lg' c p hp he hc r ha hf; unfold gG' at hp; split at hp
 ·rename_i i a b; cases hp; obtain ⟨m, lg1, he1⟩ := GS' he; split at he1
  ·rename_i s; obtain ⟨c1, he2, rfl⟩ := A9' he1; obtain ⟨⟨h1, h2, h3, h4⟩, hc2⟩ := (Cnd.and_iff _ _).1 hc; obtain ⟨a, rfl⟩ := Int.eq_ofNat_of_zero_le h1; obtain ⟨b, rfl⟩ := Int.eq_ofNat_of_zero_le h3; exact EC' (a8' s a b h2 h4) ⟨rfl, Ye, Ye, Ye⟩ ⟨Ye, Ye⟩ trivial he2 hc2 r ha hf
  ·exact (A1' he1).elim
 ·cases hp
theorem aZ' (F : HP) : C1OK Θ F LX' gC' := by
 intro st W0 N h w args vargs v h' n n' lg lg' c p hp he hc r ha hf; unfold gC' at hp; split at hp
 ·rename_i i a b; cases hp; obtain ⟨m, lg1, he1⟩ := GS' he; split at he1
  ·rename_i s; obtain ⟨c1, he2, rfl⟩ := A9' he1; obtain ⟨⟨h1, h2, h3, h4, h5⟩, hc2⟩ := (Cnd.and_iff _ _).1 hc; obtain ⟨a, rfl⟩ := Int.eq_ofNat_of_zero_le h1; obtain ⟨b, rfl⟩ := Int.eq_ofNat_of_zero_le h3; exact EC' (YL' s a b h2 h4 h5) ⟨rfl, Ye, Ye, Ye⟩ ⟨Ye, Ye⟩ trivial he2 hc2 r ha hf
  ·exact (A1' he1).elim
 ·cases hp
theorem gH' (F : HP) : C1OK Θ F fLen cLen := by
 intro st W0 N h w args vargs v h' n n' lg lg' c p hp he hc r ha hf; unfold cLen at hp; split at hp
 ·rename_i i; cases hp; obtain ⟨m, lg1, he1⟩ := GS' he; split at he1
  ·exact EC' (fR' _) ⟨rfl, Ye⟩ ⟨Ye, Ye⟩ trivial he1 hc r ha hf
  ·exact DT' B6' a9' rfl (RU' (A := [.ptr 0 0]) (v := iv (o' 0)) (o := pO0) (o' := pO0) ⟨rfl, Ye⟩ ⟨Ye, Ye⟩ trivial trivial) he1 hc r ha hf
  ·exact (A1' he1).elim
 ·cases hp
theorem b2' (F : HP) : C1OK Θ F CB' gE' := by
 intro st W0 N h w args vargs v h' n n' lg lg' c p hp he hc r ha hf; unfold gE' at hp; split at hp
 ·rename_i i t a b c; cases hp; obtain ⟨c0, he0, rfl⟩ := A9' he; obtain ⟨ht, hc0⟩ := (Cnd.and_iff _ _).1 hc; have ht' : t = 71 := ht; subst ht'; obtain ⟨m, lg1, he1⟩ := GS' he0; split at he1
  ·rename_i s; obtain ⟨c1, he2, rfl⟩ := A9' he1; obtain ⟨h1, hc2⟩ := (Cnd.and_iff _ _).1 hc0; exact EC' (YU' s ⟨a, b, c⟩ h1) ⟨rfl, ⟨Ye, Ye, Ye, Ye⟩, Ye⟩ ⟨Ye, Ye⟩ trivial he2 hc2 r ha hf
  ·exact DT' B6' (VP' ⟨a, b, c⟩) rfl (RU' (A := [.ptr 0 0, .iface 71 (itA ⟨a, b, c⟩)]) (v := .tuple []) (o := pO0) (o' := pO (BH' ⟨[], [], [], 0⟩ ⟨a, b, c⟩)) ⟨rfl, ⟨Ye, Ye, Ye, Ye⟩, Ye⟩ ⟨Ye, Ye⟩ trivial trivial) he1 hc0 r ha hf
  ·exact (A1' he1).elim
 ·cases hp
theorem gF' (F : HP) : C1OK Θ F fPop cPop := by
 intro st W0 N h w args vargs v h' n n' lg lg' c p hp he hc r ha hf; unfold cPop at hp; split at hp
 ·rename_i i; cases hp; obtain ⟨m, lg1, he1⟩ := GS' he; split at he1
  ·rename_i s; obtain ⟨c1, he2, rfl⟩ := A9' he1; obtain ⟨⟨h1, h2⟩, hc2⟩ := (Cnd.and_iff _ _).1 hc; exact EC' (dO' s h1 h2) ⟨rfl, Ye⟩ ⟨⟨Ye, Ye, Ye, Ye⟩, Ye⟩ trivial he2 hc2 r ha hf
  ·exact (A1' he1).elim
 ·cases hp
theorem RR' : ∀ x ∈ conP, ∀ F, C1OK Θ F x.1 x.2 := by
 intro x hx F; simp only [conP, List.mem_cons, List.not_mem_nil, or_false] at hx
 rcases hx with rfl | rfl | rfl | rfl | rfl
 ·exact b3' F
 ·exact aZ' F
 ·exact gH' F
 ·exact b2' F
 ·exact gF' F
theorem HV' {ks : List Nat} {os : List (Option AO)} {vs' : List AV} (hv : VW vs (AV.rens (sg []) vs')) (ho : ∃ o1, getK ks os 0 = some o1 /\ OW o1 (o.ren (sg []))) : Fit ks vs os vs' [(0, o)] [] :=
 BC' [] rfl rfl hv ⟨ho, Ye⟩
structure PI (s : Ps) : Prop where
 m : MI s.m s.ck
 big : s.xs.length * 24 <= 140737488355328
theorem PI.swap {s : Ps} (h : PI s) (i j : Nat) : PI (AE' s i j) := ⟨(h.m.mset _ _).mset _ _, by rw [B4']; exact h.big⟩
theorem dE' (s : Ps) (j : Nat) (hP : PI s) (hj : j < s.xs.length) : LTri Θ default (E0' fUp) (upA j) [(0, pO s)] (.exit 0) (anys 23) [(0, pO (upS s j))] := by
 refine PN' (σ := {p : Ps × Nat // PI p.1 /\ p.2 < p.1.xs.length}) (g := fUp) (con := fun _ => conL conP) (claim := fun p => hUp p.1.2) (lcon := fun _ => MG' []) (fun p => upA p.1.2) (fun p => [(0, pO p.1.1)]) (fun p => (.exit 0, anys 23, [(0, pO (upS p.1.1 p.1.2))])) (fun p => p.1.2) [0] 1000 PL'
  (fun _ => rfl) (fun p F _ => IP' rfl fun x hx => RR' x hx F) (fun p F _ => GU' rfl fun x hx => by cases hx) ?_ ⟨(s, j), hP, hj⟩
 rintro ⟨⟨s, j⟩, hP, hj⟩ F _; show (lRun conP (hUp j) [] fUp (E0' fUp) (upA j) [(0, pO s)] [0] F).all _; rw [oUp_eq]; have hbig := hP.big; have hj : j < s.xs.length := hj; have hbig : s.xs.length * 24 <= 140737488355328 := hbig
 have hwr : IntKind.i64.wrap ((IntKind.i64.wrap (o' j - o' 1)).tdiv (o' 2)) = o' ((j - 1) / 2) := by
  have hj2 : j < s.xs.length := hj; rw [IntWalk.i64_in (o' j - o' 1) (by simp only [Z0]; omega)]
  cases j with
  | zero => rfl
  | succ j =>
   rw [IntWalk.i64_quo _ _ (by simp only [Z0]; omega)]; simp only [Z0]; omega
 have hfin : ∀ (l : List AV), l.length = 23 -> VW l (AV.rens (sg []) (anys 23)) := fun l hl => by rw [J7']; exact JT' hl
 have hup0 : (o' ((j - 1) / 2) == o' j) = decide (j = 0) := by
  simp only [Z0]
  by_cases h : j = 0
  ·subst h; rfl
  ·simp only [h, decide_false]; apply beq_eq_false_iff_ne.2; omega
 have hw : ∀ (x y : Nat), (o' x).toNat = x := fun x y => rfl
 rw [hup0]
 refine ⟨fun h1 => ?_, fun h1 => ⟨fun h2 => ?_, fun h2 => ?_⟩⟩
 ·simp only [decide_eq_true_eq] at h1
  have e : upS s j = s := by rw [upS, dif_pos h1]
  refine ⟨⟨⟨AW' hwr, Ye⟩, Ye⟩, .inr ⟨(fun h => by cases h), rfl, (HV' (hfin _ rfl) ⟨_, rfl, OW.of_eq ?_⟩).fits rfl⟩⟩; show _ = (pO (upS s j)).ren _; rw [e]; rfl
 ·simp only [decide_eq_false_iff_not] at h1; have h2' : (!ahead (at' s j) (at' s ((j - 1) / 2))) = true := h2
  have e : upS s j = s := by rw [upS, dif_neg h1, if_neg (by simpa using h2')]
  refine ⟨⟨⟨AW' hwr, Ye⟩, ⟨⟨by simp only [Z0]; omega, hj, by simp only [Z0]; omega, by show (j - 1) / 2 < _; omega⟩, Yb, Yc, Ye⟩, Ye⟩, .inr ⟨(fun h => by cases h), rfl, (HV' (hfin _ rfl) ⟨_, rfl, OW.of_eq ?_⟩).fits rfl⟩⟩
  show _ = (pO (upS s j)).ren _; rw [e]; rfl
 ·simp only [decide_eq_false_iff_not] at h1; have h2' : (!ahead (at' s j) (at' s ((j - 1) / 2))) = false := h2
  have e1 : (j - 1) / 2 < s.xs.length := ω
  have e : upS s j = upS (AE' s ((j - 1) / 2) j) ((j - 1) / 2) := by
   conv => lhs; rw [upS, dif_neg h1, if_pos (by simpa using h2')]
  refine ⟨⟨⟨AW' hwr, Ye⟩, ⟨⟨by simp only [Z0]; omega, hj, by simp only [Z0]; omega, e1⟩, Yb, Yc, Ye⟩, ⟨⟨by simp only [Z0]; omega, e1, by simp only [Z0]; omega, hj, hP.m⟩, Yb, Yc, Ye⟩, Ye⟩, .inl ⟨rfl, ⟨(AE' s ((j - 1) / 2) j, (j - 1) / 2), hP.swap _ _, by rw [B4']; exact e1⟩, ?_, ?_, [], HV' ?_ ⟨_, rfl, Yc⟩⟩⟩
  ·show (j - 1) / 2 < j; omega
  ·simp only [e]
  ·exact VW.cons Ya (VW.cons Ya (by rw [J7']; exact JT' rfl))
theorem O3' (s : Ps) (i n : Nat) (h : ¬ n <= 2 * i + 1) : BJ' s i n < n := by unfold BJ'; split <;> omega
theorem X8' (s : Ps) (i0 n i : Nat) (hP : PI s) (hn : n <= s.xs.length) (hi : i <= s.xs.length) : LTri Θ default (E0' G3') (GZ' i0 n i) [(0, pO s)] (.exit 0) (GZ' i0 n (AI' s i n).2) [(0, pO (AI' s i n).1)] := by
 refine PN' (σ := {p : Ps × Nat // PI p.1 /\ n <= p.1.xs.length /\ p.2 <= p.1.xs.length}) (g := G3') (con := fun _ => conL conP) (claim := fun p => fX' p.1.2) (lcon := fun _ => MG' []) (fun p => GZ' i0 n p.1.2) (fun p => [(0, pO p.1.1)]) (fun p => (.exit 0, GZ' i0 n (AI' p.1.1 p.1.2 n).2, [(0, pO (AI' p.1.1 p.1.2 n).1)])) (fun p => n - p.1.2) [0] 1000 PL'
  (fun _ => rfl) (fun p F _ => IP' rfl fun x hx => RR' x hx F) (fun p F _ => GU' rfl fun x hx => by cases hx) ?_ ⟨(s, i), hP, hn, hi⟩
 rintro ⟨⟨s, i⟩, hP, hn, hi⟩ F _; show (lRun conP (fX' i) [] G3' (E0' G3') (GZ' i0 n i) [(0, pO s)] [0] F).all _; rw [ZX']; have hn : n <= s.xs.length := hn; have hi : i <= s.xs.length := hi; have hbig : s.xs.length * 24 <= 140737488355328 := hP.big
 have hw1 : IntKind.i64.wrap (IntKind.i64.wrap (o' 2 * o' i) + o' 1) = o' (2 * i + 1) := by
  rw [IntWalk.i64_in (o' 2 * o' i) (by simp only [Z0]; omega), IntWalk.i64_in _ (by simp only [Z0]; omega)]; simp only [Z0]; omega
 have hw2 : IntKind.i64.wrap (o' (2 * i + 1) + o' 1) = o' (2 * i + 2) := by
  rw [IntWalk.i64_in _ (by simp only [Z0]; omega)]; simp only [Z0]; omega
 have hM := hP.m
 have hfin : ∀ (i0' n' i' : Nat) (l : List AV), l.length = 40 -> ∀ x3 x4 x5 x6, VW (hI :: iv (o' i0) :: iv (o' n) :: x3 :: x4 :: x5 :: x6 :: iv (o' i') :: l) (AV.rens (sg []) (GZ' i0 n i')) := by
  intro _ _ i' l hl x3 x4 x5 x6
  have : AV.rens (sg []) (GZ' i0 n i') = GZ' i0 n i' := by
   show hI :: iv _ :: iv _ :: .any :: .any :: .any :: .any :: iv _ :: AV.rens (sg []) (anys 40) = _; rw [J7']; rfl
  rw [this]; exact VW.cons Ya (VW.cons Ya (VW.cons Ya (VW.cons (Wk.any _) (VW.cons (Wk.any _) (VW.cons (Wk.any _) (VW.cons (Wk.any _) (VW.cons Ya (JT' hl))))))))
 -- how a round ends
 have stop : ∀ (tm : List AV), (AI' s i n) = (s, i) -> VW tm (AV.rens (sg []) (GZ' i0 n i)) -> Fits [0] tm [some (pO s)] (GZ' i0 n (AI' s i n).2) [(0, pO (AI' s i n).1)] := by
  intro tm e hv; rw [e]; exact (HV' hv ⟨_, rfl, Yc⟩).fits rfl
 have goes : ∀ j, j < n -> i < j -> AI' s i n = AI' (AE' s i j) j n -> ∀ tm, VW tm (AV.rens (sg []) (GZ' i0 n j)) ->
   ∃ s' : {p : Ps × Nat // PI p.1 /\ n <= p.1.xs.length /\ p.2 <= p.1.xs.length}, n - s'.1.2 < n - i /\ ((AX.exit 0, GZ' i0 n (AI' s'.1.1 s'.1.2 n).2, [(0, pO (AI' s'.1.1 s'.1.2 n).1)]) : AX × List AV × LH) = (.exit 0, GZ' i0 n (AI' s i n).2, [(0, pO (AI' s i n).1)]) /\ ∃ l, Fit [0] tm [some (pO (AE' s i j))] (GZ' i0 n s'.1.2) [(0, pO s'.1.1)] l := by
  intro j hj hij e tm hv
  refine ⟨⟨(AE' s i j, j), hP.swap _ _, by rw [B4']; exact hn, by rw [B4']; exact Nat.le_of_lt (Nat.lt_of_lt_of_le hj hn)⟩, ?_, ?_, [], HV' hv ⟨_, rfl, Yc⟩⟩
  ·show n - j < n - i; omega
  ·simp only [e]
 have big : ∀ h : ¬ n <= 2 * i + 1, AI' s i n = if ahead (at' s (BJ' s i n)) (at' s i) = true then AI' (AE' s i (BJ' s i n)) (BJ' s i n) n else (s, i) := fun h => by conv => lhs; rw [AI', dif_neg h]
 refine ⟨fun h1 => ?_, fun h1 => ⟨(fun h => by cases h), fun _ => ⟨fun h2 => ⟨fun h3 => ⟨fun h4 => ?_, fun h4 => ?_⟩, fun h3 => ⟨fun h4 => ?_, fun h4 => ?_⟩⟩, fun h2 => ⟨fun h4 => ?_, fun h4 => ?_⟩⟩⟩⟩
 ·simp only [Int.ofNat_eq_natCast, decide_eq_true_eq] at h1; exact ⟨⟨⟨AW' hw1, Ye⟩, Ye⟩, .inr ⟨(fun h => by cases h), rfl, stop _ (by rw [AI', dif_pos ω]) (hfin 0 0 i _ rfl _ _ _ _)⟩⟩
 all_goals simp only [Int.ofNat_eq_natCast, decide_eq_true_eq, decide_eq_false_iff_not] at h1 h2
 all_goals have hb := big ω
 all_goals have h4' := h4
 all_goals simp only [Int.ofNat_eq_natCast, Int.toNat_natCast, Bool.not_eq_true', Bool.not_eq_false'] at h4'
 ·have h3' : ahead (at' s (2 * i + 2)) (at' s (2 * i + 1)) = true := h3
  have hj : BJ' s i n = 2 * i + 2 := by rw [BJ', if_pos ⟨ω, h3'⟩]
  rw [hj, h4'] at hb; refine ⟨?_, .inr ⟨(fun h => by cases h), rfl, stop _ (by rw [hb]; rfl) (hfin 0 0 i _ rfl _ _ _ _)⟩⟩; exact Cq3'
 ·have h3' : ahead (at' s (2 * i + 2)) (at' s (2 * i + 1)) = true := h3
  have hj : BJ' s i n = 2 * i + 2 := by rw [BJ', if_pos ⟨ω, h3'⟩]
  rw [hj, h4', if_pos rfl] at hb; refine ⟨?_, .inl ⟨rfl, goes (2 * i + 2) ω ω hb _ (hfin 0 0 (2 * i + 2) _ rfl _ _ _ _)⟩⟩; exact Cq3'
 ·have h3' : ahead (at' s (2 * i + 2)) (at' s (2 * i + 1)) = false := h3
  have hj : BJ' s i n = 2 * i + 1 := by rw [BJ', if_neg (by rw [h3']; simp)]
  rw [hj, h4'] at hb; refine ⟨?_, .inr ⟨(fun h => by cases h), rfl, stop _ (by rw [hb]; rfl) (hfin 0 0 i _ rfl _ _ _ _)⟩⟩; exact Cq3'
 ·have h3' : ahead (at' s (2 * i + 2)) (at' s (2 * i + 1)) = false := h3
  have hj : BJ' s i n = 2 * i + 1 := by rw [BJ', if_neg (by rw [h3']; simp)]
  rw [hj, h4', if_pos rfl] at hb; refine ⟨?_, .inl ⟨rfl, goes (2 * i + 1) ω ω hb _ (hfin 0 0 (2 * i + 1) _ rfl _ _ _ _)⟩⟩; exact Cq3'
 ·have hj : BJ' s i n = 2 * i + 1 := by rw [BJ', if_neg (by intro h; omega)]
  rw [hj, h4'] at hb; refine ⟨?_, .inr ⟨(fun h => by cases h), rfl, stop _ (by rw [hb]; rfl) (hfin 0 0 i _ rfl _ _ _ _)⟩⟩; exact Cq3'
 ·have hj : BJ' s i n = 2 * i + 1 := by rw [BJ', if_neg (by intro h; omega)]
  rw [hj, h4', if_pos rfl] at hb; refine ⟨?_, .inl ⟨rfl, goes (2 * i + 1) ω ω hb _ (hfin 0 0 (2 * i + 1) _ rfl _ _ _ _)⟩⟩; exact Cq3'
theorem HP' (x y : It) : ahead x y = true ↔ y.a < x.a \/ (x.a = y.a /\ x.b < y.b) := by
 simp [ahead]
theorem DA' (x : It) : ahead x x = false := by
 cases h : ahead x x with
 | false => rfl
 | true => rw [HP'] at h; omega
theorem S3' {x y z : It} (h1 : ahead x y = true) (h2 : ahead y z = true) : ahead x z = true := by
 rw [HP'] at *; omega
def nb (x y : It) : Prop := ahead y x = false
theorem W8' (x y : It) : nb x y ↔ ¬ (x.a < y.a \/ (y.a = x.a /\ y.b < x.b)) := by
 rw [nb, <- Bool.not_eq_true, HP']
theorem HS' {x y z : It} (h1 : nb x y) (h2 : nb y z) : nb x z := by rw [W8'] at *; omega
theorem D3' {x y : It} (h : ahead x y = true) : nb x y := by rw [W8']; rw [HP'] at h; omega
theorem S4' {x y : It} (h : nb x y) (hs : x.b ≠ y.b) : ahead x y = true := by rw [W8'] at h; rw [HP']; omega
def BU' (f : Nat -> It) (i j k : Nat) : It := if k = j then f i else if k = i then f j else f k
theorem DV' (s : Ps) (i j k : Nat) (hi : i < s.xs.length) (hj : j < s.xs.length) : at' (AE' s i j) k = BU' (at' s) i j k := by
 unfold BU'
 by_cases h1 : k = j
 ·rw [if_pos h1, h1]; exact P0' s i j hi hj
 ·rw [if_neg h1]
  by_cases h2 : k = i
  ·rw [if_pos h2, h2]; exact P1' s i j hi hj
  ·rw [if_neg h2]; simp only [AE', at', List.getD]; rw [List.getElem?_set_ne (Ne.symm h1), List.getElem?_set_ne (Ne.symm h2)]
theorem NH' (s : Ps) (i : Nat) (hi : i < s.xs.length) : at' s i = s.xs[i] := by
 simp [at', List.getD, List.getElem?_eq_getElem hi]
theorem G7' (s : Ps) (i j : Nat) (hi : i < s.xs.length) (hj : j < s.xs.length) : (AE' s i j).xs.Perm s.xs := by
 simp only [AE', NH' s i hi, NH' s j hj]; exact List.set_set_perm hi hj
def II' (f : Nat -> It) (n : Nat) : Prop := ∀ c, 0 < c -> c < n -> nb (f ((c - 1) / 2)) (f c)
def M9' (f : Nat -> It) (n j : Nat) : Prop := (∀ c, 0 < c -> c < n -> c ≠ j -> nb (f ((c - 1) / 2)) (f c)) /\ ∀ c, 0 < c -> c < n -> (c - 1) / 2 = j -> 0 < j -> nb (f ((j - 1) / 2)) (f c)
def I4' (f : Nat -> It) (n i : Nat) : Prop := (∀ c, 0 < c -> c < n -> (c - 1) / 2 ≠ i -> nb (f ((c - 1) / 2)) (f c)) /\ ∀ c, 0 < c -> c < n -> (c - 1) / 2 = i -> 0 < i -> nb (f ((i - 1) / 2)) (f c)
theorem LT' {f : Nat -> It} (h : M9' f n j) (hj0 : 0 < j) (hjn : j < n) (ha : ahead (f j) (f ((j - 1) / 2)) = true) : M9' (BU' f ((j - 1) / 2) j) n ((j - 1) / 2) := by
 have hpj : (j - 1) / 2 < j := ω
 have hpn : (j - 1) / 2 ≠ j := ω
 have e1 : BU' f ((j - 1) / 2) j j = f ((j - 1) / 2) := if_pos rfl
 have e2 : BU' f ((j - 1) / 2) j ((j - 1) / 2) = f j := by rw [BU', if_neg hpn, if_pos rfl]
 have e3 : ∀ k, k ≠ j -> k ≠ (j - 1) / 2 -> BU' f ((j - 1) / 2) j k = f k := fun k h1 h2 => by rw [BU', if_neg h1, if_neg h2]
 refine ⟨fun c hc hcn hne => ?_, fun c hc hcn hpc hp0 => ?_⟩
 ·by_cases hcj : c = j
  ·rw [hcj, e1, e2]; exact D3' ha
  ·rw [e3 c hcj hne]
   by_cases h1 : (c - 1) / 2 = j
   ·rw [h1, e1]; exact h.2 c hc hcn h1 hj0
   ·by_cases h2 : (c - 1) / 2 = (j - 1) / 2
    ·rw [h2, e2]; exact HS' (D3' ha) (h2 ▸ h.1 c hc hcn hcj)
    ·rw [e3 _ h1 h2]; exact h.1 c hc hcn hcj
 ·have hq : ((j - 1) / 2 - 1) / 2 ≠ j := ω
  have hq2 : ((j - 1) / 2 - 1) / 2 ≠ (j - 1) / 2 := ω
  rw [e3 _ hq hq2]; have hb := h.1 ((j - 1) / 2) hp0 ω hpn
  by_cases hcj : c = j
  ·rw [hcj, e1]; exact hb
  ·rw [e3 c hcj ω]; exact HS' hb (hpc ▸ h.1 c hc hcn hcj)
theorem GV' {f : Nat -> It} (h : M9' f n j) (hd : j = 0 \/ nb (f ((j - 1) / 2)) (f j)) : II' f n := by
 intro c hc hcn
 by_cases e : c = j
 ·rcases hd with h0 | h1
  ·omega
  ·rw [e]; exact h1
 ·exact h.1 c hc hcn e
theorem dF' : ∀ (j : Nat) (s : Ps), j < s.xs.length -> M9' (at' s) s.xs.length j -> II' (at' (upS s j)) s.xs.length /\ (upS s j).xs.Perm s.xs := by
 intro j
 induction j using Nat.strongRecOn with
 | ind j ih =>
  intro s hj h; rw [upS]; split
  ·rename_i h0; exact ⟨GV' h (.inl h0), List.Perm.refl _⟩
  ·split
   ·rename_i h0 ha
    have hp : (j - 1) / 2 < s.xs.length := ω
    have hf : at' (AE' s ((j - 1) / 2) j) = BU' (at' s) ((j - 1) / 2) j := funext fun k => DV' s _ _ k hp hj
    have h2 := LT' h ω hj ha; have := ih ((j - 1) / 2) ω (AE' s ((j - 1) / 2) j) (by rw [B4']; exact hp) (by rw [hf, B4']; exact h2); rw [B4'] at this; exact ⟨this.1, this.2.trans (G7' s _ _ hp hj)⟩
   ·rename_i h0 ha; exact ⟨GV' h (.inr (by rw [nb]; simpa using ha)), List.Perm.refl _⟩
theorem O0' {f : Nat -> It} (h : I4' f n i) (hji : (j - 1) / 2 = i) (hj0 : 0 < j) (hjn : j < n) (ha : ahead (f j) (f i) = true) (hs : ∀ c, 0 < c -> c < n -> (c - 1) / 2 = i -> nb (f j) (f c)) : I4' (BU' f i j) n j := by
 have hij : i ≠ j := ω
 have e1 : BU' f i j j = f i := if_pos rfl
 have e2 : BU' f i j i = f j := by rw [BU', if_neg hij, if_pos rfl]
 have e3 : ∀ k, k ≠ j -> k ≠ i -> BU' f i j k = f k := fun k h1 h2 => by rw [BU', if_neg h1, if_neg h2]
 refine ⟨fun c hc hcn hne => ?_, fun c hc hcn hpc _ => ?_⟩
 ·by_cases h1 : (c - 1) / 2 = i
  ·rw [h1, e2]
   by_cases hcj : c = j
   ·rw [hcj, e1]; exact D3' ha
   ·rw [e3 c hcj ω]; exact hs c hc hcn h1
  ·rw [e3 _ hne h1]
   by_cases hci : c = i
   ·rw [hci, e2]
    have hi0 : 0 < i := ω
    have := h.2 j hj0 hjn hji hi0; exact this
   ·rw [e3 c (fun e => h1 (e ▸ hji)) hci]; exact h.1 c hc hcn h1
 ·have hcj : c ≠ j := ω
  have hci : c ≠ i := ω
  rw [hji, e2, e3 c hcj hci]; have := h.1 c hc hcn ω
  rwa [hpc] at this
theorem GW' {f : Nat -> It} (h : I4' f n i) (hd : ∀ c, 0 < c -> c < n -> (c - 1) / 2 = i -> nb (f i) (f c)) : II' f n := by
 intro c hc hcn
 by_cases e : (c - 1) / 2 = i
 ·rw [e]; exact hd c hc hcn e
 ·exact h.1 c hc hcn e
theorem Q4' (n : Nat) : ∀ (d : Nat) (s : Ps) (i : Nat), n - i <= d -> n <= s.xs.length -> I4' (at' s) n i -> II' (at' (AI' s i n).1) n /\ (AI' s i n).1.xs.Perm s.xs /\ ∀ k, n <= k -> at' (AI' s i n).1 k = at' s k := by
 intro d
 induction d with
 | zero =>
  intro s i hd hn h; rw [AI', dif_pos ω]
  exact ⟨GW' h (fun c hc hcn e => ω), List.Perm.refl _, fun _ _ => rfl⟩
 | succ d ih =>
  intro s i hd hn h; rw [AI']; split
  ·exact ⟨GW' h (fun c hc hcn e => ω), List.Perm.refl _, fun _ _ => rfl⟩
  ·rename_i hlt; have hjn := O3' s i n hlt
   have hji : (BJ' s i n - 1) / 2 = i := by unfold BJ'; split <;> omega
   have hj0 : 0 < BJ' s i n := by unfold BJ'; split <;> omega
   have hmin : ∀ c, 0 < c -> c < n -> (c - 1) / 2 = i -> nb (at' s (BJ' s i n)) (at' s c) := by
    intro c hc hcn e
    have hcase : c = 2 * i + 1 \/ c = 2 * i + 2 := ω
    unfold BJ'; split
    ·rename_i hh
     rcases hcase with rfl | rfl
     ·exact D3' hh.2
     ·exact DA' _
    ·rename_i hh
     rcases hcase with rfl | rfl
     ·exact DA' _
     ·cases hb : ahead (at' s (2 * i + 2)) (at' s (2 * i + 1)) with
      | false => exact hb
      | true => exact absurd ⟨hcn, hb⟩ hh
   split
   ·rename_i ha
    have hj2 : BJ' s i n < s.xs.length := ω
    have hi2 : i < s.xs.length := ω
    have hf : at' (AE' s i (BJ' s i n)) = BU' (at' s) i (BJ' s i n) := funext fun k => DV' s _ _ k hi2 hj2
    have := ih (AE' s i (BJ' s i n)) (BJ' s i n) (by have := HY' s i n; omega) (by rw [B4']; exact hn) (by rw [hf]; exact O0' h hji hj0 hjn ha hmin)
    refine ⟨this.1, this.2.1.trans (G7' s _ _ hi2 hj2), fun k hk => ?_⟩
    rw [this.2.2 k hk, hf, BU', if_neg ω, if_neg ω]
   ·rename_i ha
    refine ⟨GW' h fun c hc hcn e => ?_, List.Perm.refl _, fun _ _ => rfl⟩
    have ha' : nb (at' s i) (at' s (BJ' s i n)) := by simpa [nb] using ha
    exact HS' ha' (hmin c hc hcn e)
theorem WU' {f : Nat -> It} (h : II' f n) : ∀ c, c < n -> nb (f 0) (f c) := by
 intro c
 induction c using Nat.strongRecOn with
 | ind c ih =>
  intro hc
  by_cases h0 : c = 0
  ·rw [h0]; exact DA' _
  ·exact HS' (ih ((c - 1) / 2) ω ω) (h c ω hc)
def JQ' (s : Ps) : Prop := ∀ k v, AK' k s.m = some v ↔ ∃ i, i < s.xs.length /\ (at' s i).b = k /\ v = (i : Int)
theorem JQ'.inj {s : Ps} (h : JQ' s) (hi : i < s.xs.length) (hj : j < s.xs.length) (e : (at' s i).b = (at' s j).b) : i = j := by
 have h1 := (h (at' s i).b i).2 ⟨i, hi, rfl, rfl⟩; have h2 := (h (at' s i).b j).2 ⟨j, hj, e.symm, rfl⟩; rw [h1] at h2; have : (i : Int) = j := Option.some.inj h2; omega
theorem JQ'.swap {s : Ps} (h : JQ' s) (hi : i < s.xs.length) (hj : j < s.xs.length) : JQ' (AE' s i j) := by
 intro k v
 have hm : AK' k (AE' s i j).m = if k = (at' s i).b then some (j : Int) else if k = (at' s j).b then some (i : Int) else AK' k s.m := by
  show AK' k (TQ' s i j) = _; rw [TQ', E9', E9']
 rw [hm]
 by_cases h1 : k = (at' s i).b
 ·rw [if_pos h1]
  constructor
  ·intro e
   refine ⟨j, by rw [B4']; exact hj, ?_, (Option.some.inj e).symm⟩
   rw [DV' s i j j hi hj, BU', if_pos rfl, h1]
  ·rintro ⟨c, hc, hcb, rfl⟩; rw [B4'] at hc; rw [DV' s i j c hi hj, BU'] at hcb; split at hcb
   ·rename_i e; rw [e]
   ·split at hcb
    ·rename_i e1 e2; have := h.inj hj hi (hcb.trans h1); omega
    ·rename_i e1 e2; have := h.inj hc hi (hcb.trans h1); exact absurd this e2
 ·rw [if_neg h1]
  by_cases h2 : k = (at' s j).b
  ·rw [if_pos h2]
   constructor
   ·intro e
    refine ⟨i, by rw [B4']; exact hi, ?_, (Option.some.inj e).symm⟩
    rw [DV' s i j i hi hj, BU']; split
    ·rename_i e1; rw [h2, e1]
    ·rw [if_pos rfl, h2]
   ·rintro ⟨c, hc, hcb, rfl⟩; rw [B4'] at hc; rw [DV' s i j c hi hj, BU'] at hcb; split at hcb
    ·exact absurd hcb.symm h1
    ·split at hcb
     ·rename_i e1 e2; rw [e2]
     ·rename_i e1 e2; exact absurd (h.inj hc hj (hcb.trans h2)) e1
  ·rw [if_neg h2, h k v]
   constructor
   ·rintro ⟨c, hc, hcb, hv⟩
    refine ⟨c, by rw [B4']; exact hc, ?_, hv⟩
    rw [DV' s i j c hi hj, BU', if_neg (fun e => h2 (by rw [<- e, hcb])), if_neg (fun e => h1 (by rw [<- e, hcb]))]; exact hcb
   ·rintro ⟨c, hc, hcb, hv⟩; rw [B4'] at hc; rw [DV' s i j c hi hj, BU'] at hcb; split at hcb
    ·exact absurd hcb.symm h1
    ·split at hcb
     ·exact absurd hcb.symm h2
     ·exact ⟨c, hc, hcb, hv⟩
theorem bB' : ∀ (j : Nat) (s : Ps), j < s.xs.length -> JQ' s -> JQ' (upS s j) := by
 intro j
 induction j using Nat.strongRecOn with
 | ind j ih =>
  intro s hj h; rw [upS]; split
  ·exact h
  ·split
   ·have hp : (j - 1) / 2 < s.xs.length := ω
    exact ih ((j - 1) / 2) ω _ (by rw [B4']; exact hp) (h.swap hp hj)
   ·exact h
theorem TE' (n : Nat) : ∀ (d : Nat) (s : Ps) (i : Nat), n - i <= d -> n <= s.xs.length -> JQ' s -> JQ' (AI' s i n).1 := by
 intro d
 induction d with
 | zero =>
  intro s i hd hn h; rw [AI', dif_pos ω]; exact h
 | succ d ih =>
  intro s i hd hn h; rw [AI']; split
  ·exact h
  ·rename_i hlt; have hjn := O3' s i n hlt; have hg := HY' s i n; split
   ·exact ih _ _ ω (by rw [B4']; exact hn) (h.swap ω ω)
   ·exact h
noncomputable section
def upL : List AV -> AP (AX × List AV) := fun tmps => match tmps with
 | .iface _ (.ptr i 0) :: .v (.int .i64 j) :: _ => .read i fun o => match o with
  | .own (.pile s) _ => .need (0 <= j /\ j.toNat < s.xs.length /\ PI s) (useG (fun _ => i) (upA j.toNat) tmps [(0, pO s)] (.leaf (.exit 0) (anys 23) [(0, pO (upS s j.toNat))]))
  | _ => .fail "up"
 | _ => .fail "up"
def UC' : List AV -> AP (AX × List AV) := fun tmps => match tmps with
 | .iface _ (.ptr p 0) :: .v (.int .i64 i0) :: .v (.int .i64 n) :: _ :: _ :: _ :: _ :: .v (.int .i64 i) :: _ => .read p fun o => match o with
  | .own (.pile s) _ => .need (0 <= i0 /\ 0 <= n /\ 0 <= i /\ n.toNat <= s.xs.length /\ i.toNat <= s.xs.length /\ PI s) (useG (fun _ => p) (GZ' i0.toNat n.toNat i.toNat) tmps [(0, pO s)] (.leaf (.exit 0) (GZ' i0.toNat n.toNat (AI' s i.toNat n.toNat).2) [(0, pO (AI' s i.toNat n.toNat).1)]))
  | _ => .fail "down"
 | _ => .fail "down"
abbrev k37' (q0 : Ps) : Cnd := (ow' (AO.own (Md.pile q0) (pH q0)))
theorem dV' (s : Ps) (j : Nat) (F : HP) : oRun [] AF' [(fUp, 0, E0' fUp, upL)] fUp [hI, iv (o' j)] [(0, pO s)] [0] F = VT.leaf (AV.tuple []) [some (AO.own (Md.pile (upS s j)) (pH (upS s j)))] 1100 ((p' ((fUp,0,E0' fUp,upL).snd.snd.fst = (fUp,0,E0' fUp,upL).snd.snd.fst)).a ((p' (o' 0 <= o' j /\ j < s.xs.length /\ PI s)).a ((p' (VW (AV.iface 96 (pt' 0 0)::i' j::ru16 (ru4 (u'::[]))) (AV.iface 96 (pt' 0 0)::i' j::ra16 (ra4 (a'::[]))))).a ((k37' s).a k1')))) := χ
theorem W4' (s : Ps) (i n : Nat) (F : HP) : oRun [] AF' [(G3', 2, E0' G3', UC')] G3' [hI, iv (o' i), iv (o' n)] [(0, pO s)] [0] F = VT.leaf (b' (decide (o' (AI' s i n).snd > o' i))) [some (AO.own (Md.pile (AI' s i n).fst) (pH (AI' s i n).fst))] 1100 ((p' ((G3',2,E0' G3',UC').snd.snd.fst = (G3',2,E0' G3',UC').snd.snd.fst)).a ((p' (o' 0 <= o' i /\ o' 0 <= o' n /\ o' 0 <= o' i /\ n <= s.xs.length /\ i <= s.xs.length /\ PI s)).a ((p' (VW (AV.iface 96 (pt' 0 0)::i' i::i' n::u'::u'::u'::b' false::i' i::u'::u'::u'::i' i::ru16 (ru16 (ru4 ([])))) (AV.iface 96 (pt' 0 0)::i' i::i' n::ra4 (i' i::ra16 (ra16 (ra8 ([]))))))).a ((k37' s).a k1')))) := χ
def cUp : List AV -> Option (AP AV) := fun args => match args with
 | [.iface t (.ptr i 0), .v (.int .i64 j)] => some (.need (t = 96) (ownC i fun m => match m with
  | .pile s => .need (0 <= j /\ j.toNat < s.xs.length /\ PI s) (KG' s [hI, iv j] args i (.tuple []) (pO (upS s j.toNat)))
  | _ => .fail "pile"))
 | _ => none
def gJ' : List AV -> Option (AP AV) := fun args => match args with
 | [.iface t (.ptr p 0), .v (.int .i64 i), .v (.int .i64 n)] => some (.need (t = 96) (ownC p fun m => match m with
  | .pile s => .need (0 <= n /\ 0 <= i /\ n.toNat <= s.xs.length /\ i.toNat <= s.xs.length /\ PI s) (KG' s [hI, iv i, iv n] args p (.v (.bool (decide (i.toNat < (AI' s i.toNat n.toNat).2)))) (pO (AI' s i.toNat n.toNat).1))
  | _ => .fail "pile"))
 | _ => none
def conH : List (FuncId × (List AV -> Option (AP AV))) := (fUp, cUp) :: (G3', gJ') :: conP
abbrev EX' : Nat := 59
abbrev RL' : Nat := 51
abbrev RK' : Nat := 66
def itF (x : It) : AV := .iface 71 (itA x)
theorem W2' (s : Ps) (x : It) (F : HP) : oRun conH (AJ' [(EX', 1, 3, hv (iv (o' s.xs.length)))]) [] EX' [hI, itF x] [(0, pO s)] [0] F = VT.leaf (AV.tuple []) [some (AO.own (Md.pile (upS (BH' s (It.mk x.a x.b x.c)) (o' s.xs.length).toNat)) (pH (upS (BH' s (It.mk x.a x.b x.c)) (o' s.xs.length).toNat)))] 1100 (((p' (71 = 71)).a ((p' (Room s)).a ((vw' [pt' 0 0,AV.iface 71 (AV.agg [z' x.a,z' x.b,z' x.c])]).a (f' (OW (AO.own (Md.pile s) (pH s)) (AO.own (Md.pile s) (pH s))))))).a (((vw' [pt' 0 0]).a (f' (OW (AO.own (Md.pile (BH' s (It.mk x.a x.b x.c))) (pH (BH' s (It.mk x.a x.b x.c)))) (AO.own (Md.pile (BH' s (It.mk x.a x.b x.c))) (pH (BH' s (It.mk x.a x.b x.c))))))).a ((f' (Wk (z' (IntKind.i64.wrap (o' (s.xs ++ [It.mk x.a x.b x.c]).length - o' 1))) (i' s.xs.length))).a (((p' (96 = 96)).a ((p' (o' 0 <= o' s.xs.length /\ (o' s.xs.length).toNat < (s.xs ++ [It.mk x.a x.b x.c]).length /\ PI (BH' s (It.mk x.a x.b x.c)))).a ((vw' [AV.iface 96 (pt' 0 0),i' s.xs.length]).a (f' (OW (AO.own (Md.pile (BH' s (It.mk x.a x.b x.c))) (pH (BH' s (It.mk x.a x.b x.c)))) (AO.own (Md.pile (BH' s (It.mk x.a x.b x.c))) (pH (BH' s (It.mk x.a x.b x.c))))))))).a k1')))) := χ
theorem TW' (x : It) (F : HP) : oRun conH (AJ' [(EX', 1, 3, hv (iv (o' 0)))]) [] EX' [hI, itF x] [(0, pO0)] [0] F = VT.leaf (AV.tuple []) [some (AO.own (Md.pile (upS (BH' (Ps.mk [] [] [] 0) (It.mk x.a x.b x.c)) 0)) (pH (upS (BH' (Ps.mk [] [] [] 0) (It.mk x.a x.b x.c)) 0)))] 1100 (((p' (71 = 71)).a ((vw' [pt' 0 0,AV.iface 71 (AV.agg [z' x.a,z' x.b,z' x.c])]).a (f' (OW (AO.own Md.pile0 pH0) (AO.own Md.pile0 pH0))))).a (((vw' [pt' 0 0]).a (f' (OW (AO.own (Md.pile (BH' (Ps.mk [] [] [] 0) (It.mk x.a x.b x.c))) (pH (BH' (Ps.mk [] [] [] 0) (It.mk x.a x.b x.c)))) (AO.own (Md.pile (BH' (Ps.mk [] [] [] 0) (It.mk x.a x.b x.c))) (pH (BH' (Ps.mk [] [] [] 0) (It.mk x.a x.b x.c))))))).a ((f' (Wk (i' 0) (i' 0))).a (((p' (96 = 96)).a ((p' (o' 0 <= o' 0 /\ 0 < 1 /\ PI (BH' (Ps.mk [] [] [] 0) (It.mk x.a x.b x.c)))).a ((vw' [AV.iface 96 (pt' 0 0),i' 0]).a (f' (OW (AO.own (Md.pile (BH' (Ps.mk [] [] [] 0) (It.mk x.a x.b x.c))) (pH (BH' (Ps.mk [] [] [] 0) (It.mk x.a x.b x.c)))) (AO.own (Md.pile (BH' (Ps.mk [] [] [] 0) (It.mk x.a x.b x.c))) (pH (BH' (Ps.mk [] [] [] 0) (It.mk x.a x.b x.c))))))))).a k1')))) := χ
abbrev k38' (q0 : Ps) : Cnd := (f' (Wk (z' (IntKind.i64.wrap (o' q0.xs.length - o' 1))) (i' (q0.xs.length - 1))))
abbrev k39' (q0 : Ps) : Cnd := ((vw' [pt' 0 0]).a (f' (OW (AO.own (Md.pile q0) (pH q0)) (AO.own (Md.pile q0) (pH q0)))))
theorem ZJ' (s : Ps) (F : HP) : oRun conH (AJ' [(RL', 1, 2, hv (iv (o' (s.xs.length - 1))))]) [] RL' [hI] [(0, pO s)] [0] F = VT.leaf (AV.iface 71 (AV.agg [v' (vi' I' (at' (AI' (AE' s 0 (o' (s.xs.length - 1)).toNat) 0 (o' (s.xs.length - 1)).toNat).fst ((AI' (AE' s 0 (o' (s.xs.length - 1)).toNat) 0 (o' (s.xs.length - 1)).toNat).fst.xs.length - 1)).a),v' (vi' I' (at' (AI' (AE' s 0 (o' (s.xs.length - 1)).toNat) 0 (o' (s.xs.length - 1)).toNat).fst ((AI' (AE' s 0 (o' (s.xs.length - 1)).toNat) 0 (o' (s.xs.length - 1)).toNat).fst.xs.length - 1)).b),v' (vi' I' (at' (AI' (AE' s 0 (o' (s.xs.length - 1)).toNat) 0 (o' (s.xs.length - 1)).toNat).fst ((AI' (AE' s 0 (o' (s.xs.length - 1)).toNat) 0 (o' (s.xs.length - 1)).toNat).fst.xs.length - 1)).c)])) [some (AO.own (Md.pile (popS (AI' (AE' s 0 (o' (s.xs.length - 1)).toNat) 0 (o' (s.xs.length - 1)).toNat).fst)) (pH (popS (AI' (AE' s 0 (o' (s.xs.length - 1)).toNat) 0 (o' (s.xs.length - 1)).toNat).fst)))] 1100 ((k39' s).a ((k38' s).a (((p' (o' 0 <= o' 0 /\ 0 < s.xs.length /\ o' 0 <= o' (s.xs.length - 1) /\ (o' (s.xs.length - 1)).toNat < s.xs.length /\ MI s.m s.ck)).a ((vw' [pt' 0 0,i' 0,i' (s.xs.length - 1)]).a (f' (OW (AO.own (Md.pile s) (pH s)) (AO.own (Md.pile s) (pH s)))))).a (((p' (96 = 96)).a ((p' (o' 0 <= o' (s.xs.length - 1) /\ o' 0 <= o' 0 /\ (o' (s.xs.length - 1)).toNat <= ((s.xs.set 0 (at' s (o' (s.xs.length - 1)).toNat)).set (o' (s.xs.length - 1)).toNat (at' s 0)).length /\ 0 <= ((s.xs.set 0 (at' s (o' (s.xs.length - 1)).toNat)).set (o' (s.xs.length - 1)).toNat (at' s 0)).length /\ PI (AE' s 0 (o' (s.xs.length - 1)).toNat))).a ((vw' [AV.iface 96 (pt' 0 0),i' 0,i' (s.xs.length - 1)]).a (f' (OW (AO.own (Md.pile (AE' s 0 (o' (s.xs.length - 1)).toNat)) (pH (AE' s 0 (o' (s.xs.length - 1)).toNat))) (AO.own (Md.pile (AE' s 0 (o' (s.xs.length - 1)).toNat)) (pH (AE' s 0 (o' (s.xs.length - 1)).toNat)))))))).a (((p' (0 < (AI' (AE' s 0 (o' (s.xs.length - 1)).toNat) 0 (o' (s.xs.length - 1)).toNat).fst.xs.length /\ (AI' (AE' s 0 (o' (s.xs.length - 1)).toNat) 0 (o' (s.xs.length - 1)).toNat).fst.xs.length <= 9223372036854775807)).a ((vw' [pt' 0 0]).a (f' (OW (AO.own (Md.pile (AI' (AE' s 0 (o' (s.xs.length - 1)).toNat) 0 (o' (s.xs.length - 1)).toNat).fst) (pH (AI' (AE' s 0 (o' (s.xs.length - 1)).toNat) 0 (o' (s.xs.length - 1)).toNat).fst)) (AO.own (Md.pile (AI' (AE' s 0 (o' (s.xs.length - 1)).toNat) 0 (o' (s.xs.length - 1)).toNat).fst) (pH (AI' (AE' s 0 (o' (s.xs.length - 1)).toNat) 0 (o' (s.xs.length - 1)).toNat).fst)))))).a k1'))))) := χ
abbrev k40' (q0 : Ps) (q1 : Nat) : Cnd := ((p' (96 = 96)).a ((p' (o' 0 <= o' (q0.xs.length - 1) /\ o' 0 <= o' q1 /\ (o' (q0.xs.length - 1)).toNat <= ((q0.xs.set q1 (at' q0 (o' (q0.xs.length - 1)).toNat)).set (o' (q0.xs.length - 1)).toNat (at' q0 q1)).length /\ q1 <= ((q0.xs.set q1 (at' q0 (o' (q0.xs.length - 1)).toNat)).set (o' (q0.xs.length - 1)).toNat (at' q0 q1)).length /\ PI (AE' q0 q1 (o' (q0.xs.length - 1)).toNat))).a ((vw' [AV.iface 96 (pt' 0 0),i' q1,i' (q0.xs.length - 1)]).a (f' (OW (AO.own (Md.pile (AE' q0 q1 (o' (q0.xs.length - 1)).toNat)) (pH (AE' q0 q1 (o' (q0.xs.length - 1)).toNat))) (AO.own (Md.pile (AE' q0 q1 (o' (q0.xs.length - 1)).toNat)) (pH (AE' q0 q1 (o' (q0.xs.length - 1)).toNat))))))))
abbrev k41' (q0 : Nat) (q1 : Ps) : Cnd := ((p' (o' 0 <= o' q0 /\ q0 < q1.xs.length /\ o' 0 <= o' (q1.xs.length - 1) /\ (o' (q1.xs.length - 1)).toNat < q1.xs.length /\ MI q1.m q1.ck)).a ((vw' [pt' 0 0,i' q0,i' (q1.xs.length - 1)]).a (f' (OW (AO.own (Md.pile q1) (pH q1)) (AO.own (Md.pile q1) (pH q1))))))
theorem ZI' (s : Ps) (i : Nat) (F : HP) : oRun conH (AJ' [(RK', 1, 2, hv (iv (o' (s.xs.length - 1))))]) [] RK' [hI, iv (o' i)] [(0, pO s)] [0] F = VT.ite (o' (s.xs.length - 1) != o' i) (VT.ite (!decide (i < (AI' (AE' s i (o' (s.xs.length - 1)).toNat) i (o' (s.xs.length - 1)).toNat).snd)) (VT.leaf (AV.iface 71 (AV.agg [v' (vi' I' (at' (upS (AI' (AE' s i (o' (s.xs.length - 1)).toNat) i (o' (s.xs.length - 1)).toNat).fst i) ((upS (AI' (AE' s i (o' (s.xs.length - 1)).toNat) i (o' (s.xs.length - 1)).toNat).fst i).xs.length - 1)).a),v' (vi' I' (at' (upS (AI' (AE' s i (o' (s.xs.length - 1)).toNat) i (o' (s.xs.length - 1)).toNat).fst i) ((upS (AI' (AE' s i (o' (s.xs.length - 1)).toNat) i (o' (s.xs.length - 1)).toNat).fst i).xs.length - 1)).b),v' (vi' I' (at' (upS (AI' (AE' s i (o' (s.xs.length - 1)).toNat) i (o' (s.xs.length - 1)).toNat).fst i) ((upS (AI' (AE' s i (o' (s.xs.length - 1)).toNat) i (o' (s.xs.length - 1)).toNat).fst i).xs.length - 1)).c)])) [some (AO.own (Md.pile (popS (upS (AI' (AE' s i (o' (s.xs.length - 1)).toNat) i (o' (s.xs.length - 1)).toNat).fst i))) (pH (popS (upS (AI' (AE' s i (o' (s.xs.length - 1)).toNat) i (o' (s.xs.length - 1)).toNat).fst i))))] 1100 ((k39' s).a ((k38' s).a ((k41' i s).a ((k40' s i).a (((p' (96 = 96)).a ((p' (o' 0 <= o' i /\ i < (AI' (AE' s i (o' (s.xs.length - 1)).toNat) i (o' (s.xs.length - 1)).toNat).fst.xs.length /\ PI (AI' (AE' s i (o' (s.xs.length - 1)).toNat) i (o' (s.xs.length - 1)).toNat).fst)).a ((vw' [AV.iface 96 (pt' 0 0),i' i]).a (f' (OW (AO.own (Md.pile (AI' (AE' s i (o' (s.xs.length - 1)).toNat) i (o' (s.xs.length - 1)).toNat).fst) (pH (AI' (AE' s i (o' (s.xs.length - 1)).toNat) i (o' (s.xs.length - 1)).toNat).fst)) (AO.own (Md.pile (AI' (AE' s i (o' (s.xs.length - 1)).toNat) i (o' (s.xs.length - 1)).toNat).fst) (pH (AI' (AE' s i (o' (s.xs.length - 1)).toNat) i (o' (s.xs.length - 1)).toNat).fst))))))).a (((p' (0 < (upS (AI' (AE' s i (o' (s.xs.length - 1)).toNat) i (o' (s.xs.length - 1)).toNat).fst i).xs.length /\ (upS (AI' (AE' s i (o' (s.xs.length - 1)).toNat) i (o' (s.xs.length - 1)).toNat).fst i).xs.length <= 9223372036854775807)).a ((vw' [pt' 0 0]).a (f' (OW (AO.own (Md.pile (upS (AI' (AE' s i (o' (s.xs.length - 1)).toNat) i (o' (s.xs.length - 1)).toNat).fst i)) (pH (upS (AI' (AE' s i (o' (s.xs.length - 1)).toNat) i (o' (s.xs.length - 1)).toNat).fst i))) (AO.own (Md.pile (upS (AI' (AE' s i (o' (s.xs.length - 1)).toNat) i (o' (s.xs.length - 1)).toNat).fst i)) (pH (upS (AI' (AE' s i (o' (s.xs.length - 1)).toNat) i (o' (s.xs.length - 1)).toNat).fst i))))))).a k1'))))))) (VT.leaf (AV.iface 71 (AV.agg [v' (vi' I' (at' (AI' (AE' s i (o' (s.xs.length - 1)).toNat) i (o' (s.xs.length - 1)).toNat).fst ((AI' (AE' s i (o' (s.xs.length - 1)).toNat) i (o' (s.xs.length - 1)).toNat).fst.xs.length - 1)).a),v' (vi' I' (at' (AI' (AE' s i (o' (s.xs.length - 1)).toNat) i (o' (s.xs.length - 1)).toNat).fst ((AI' (AE' s i (o' (s.xs.length - 1)).toNat) i (o' (s.xs.length - 1)).toNat).fst.xs.length - 1)).b),v' (vi' I' (at' (AI' (AE' s i (o' (s.xs.length - 1)).toNat) i (o' (s.xs.length - 1)).toNat).fst ((AI' (AE' s i (o' (s.xs.length - 1)).toNat) i (o' (s.xs.length - 1)).toNat).fst.xs.length - 1)).c)])) [some (AO.own (Md.pile (popS (AI' (AE' s i (o' (s.xs.length - 1)).toNat) i (o' (s.xs.length - 1)).toNat).fst)) (pH (popS (AI' (AE' s i (o' (s.xs.length - 1)).toNat) i (o' (s.xs.length - 1)).toNat).fst)))] 1100 ((k39' s).a ((k38' s).a ((k41' i s).a ((k40' s i).a (((p' (0 < (AI' (AE' s i (o' (s.xs.length - 1)).toNat) i (o' (s.xs.length - 1)).toNat).fst.xs.length /\ (AI' (AE' s i (o' (s.xs.length - 1)).toNat) i (o' (s.xs.length - 1)).toNat).fst.xs.length <= 9223372036854775807)).a ((vw' [pt' 0 0]).a (f' (OW (AO.own (Md.pile (AI' (AE' s i (o' (s.xs.length - 1)).toNat) i (o' (s.xs.length - 1)).toNat).fst) (pH (AI' (AE' s i (o' (s.xs.length - 1)).toNat) i (o' (s.xs.length - 1)).toNat).fst)) (AO.own (Md.pile (AI' (AE' s i (o' (s.xs.length - 1)).toNat) i (o' (s.xs.length - 1)).toNat).fst) (pH (AI' (AE' s i (o' (s.xs.length - 1)).toNat) i (o' (s.xs.length - 1)).toNat).fst)))))).a k1'))))))) (VT.leaf (AV.iface 71 (AV.agg [v' (vi' I' (at' s (s.xs.length - 1)).a),v' (vi' I' (at' s (s.xs.length - 1)).b),v' (vi' I' (at' s (s.xs.length - 1)).c)])) [some (AO.own (Md.pile (popS s)) (pH (popS s)))] 1100 ((k39' s).a ((k38' s).a (((p' (0 < s.xs.length /\ s.xs.length <= 9223372036854775807)).a ((vw' [pt' 0 0]).a (f' (OW (AO.own (Md.pile s) (pH s)) (AO.own (Md.pile s) (pH s)))))).a k1')))) := χ
abbrev fNew : Nat := 26
abbrev _root_.Go.Proofs.Ytjjjchmkonnpfaa.EN' : Nat := 46
abbrev _root_.Go.Proofs.Ytjjjchmkonnpfaa.EO' : Nat := 33
abbrev _root_.Go.Proofs.Ytjjjchmkonnpfaa.EP' : Nat := 34
abbrev _root_.Go.Proofs.Ytjjjchmkonnpfaa.CU' : Nat := 56
theorem R6' (F : HP) : oRun [] AF' [] fNew [] [] [1100, 1101] F = VT.leaf (pt' 1101 0) [some (AO.map [] 0),some (ce' [e',AV.map 1100] 170)] 1102 k1' := χ
theorem ZH' (s : Ps) (F : HP) : oRun [] AF' [] EP' [.ptr 0 0] (pL s) [0, 1001, 1002] F = VT.leaf (z' ↑s.xs.length) [some (ce' [AV.slice 1001 0 s.xs.length 3 (Cp.lo (s.xs.length + s.g.length)),AV.map 1002] 170),some (ce' (rowV enc (s.xs ++ s.g)) 142),some (AO.map (mE iv s.m) s.ck)] 1100 (k6'.a k1') := χ
theorem W1' (F : HP) : oRun [] AF' [] EP' [.ptr 0 0] pL0 [0, 1002] F = VT.leaf (i' 0) [some (ce' [e',AV.map 1002] 170),some (AO.map [] 0)] 1100 (k6'.a k1') := χ
def JG' (s : Ps) (x : It) : Ps := upS (BH' s x) s.xs.length
def EL' (s : Ps) : Ps := (AI' (AE' s 0 (s.xs.length - 1)) 0 (s.xs.length - 1)).1
def LS' (s : Ps) : Ps := popS (EL' s)
def EK' (s : Ps) : It := at' (EL' s) ((EL' s).xs.length - 1)
def GJ' : Ps := ⟨[], [], [], 0⟩
def MC' (i r m : Nat) : Nat -> Nat := fun k => match Nat.beq k 0 with
 | true => i
 | false => match Nat.beq k 1001 with
  | true => r
  | false => m
def M5' (s : Ps) : List AV -> Option (AP AV) := fun args => match args with
 | [.iface t (.ptr i 0), .iface t' (.agg [.v (.int .i64 a), .v (.int .i64 b), .v (.int .i64 c)])] => some (.need (t = 96 /\ t' = 71 /\ Room s /\ PI s) (.read i fun o => match o with
  | .cells [.slice r _ _ _ _, .map m] _ => useC (MC' i r m) [hI, itF ⟨a, b, c⟩] args (pL s) (.leaf .ret [.tuple []] [(0, pO (JG' s ⟨a, b, c⟩))])
  | _ => .fail "push"))
 | _ => none
def JN' : List AV -> Option (AP AV) := fun args => match args with
 | [.iface t (.ptr i 0), .iface t' (.agg [.v (.int .i64 a), .v (.int .i64 b), .v (.int .i64 c)])] => some (.need (t = 96 /\ t' = 71) (.read i fun o => match o with
  | .cells [_, .map m] _ => useC (MC' i m m) [hI, itF ⟨a, b, c⟩] args pL0 (.leaf .ret [.tuple []] [(0, pO (BH' GJ' ⟨a, b, c⟩))])
  | _ => .fail "push"))
 | _ => none
def TI' (s : Ps) : List AV -> Option (AP AV) := fun args => match args with
 | [.iface t (.ptr i 0)] => some (.need (t = 96 /\ PI s /\ 0 < s.xs.length) (.read i fun o => match o with
  | .cells [.slice r _ _ _ _, .map m] _ => useC (MC' i r m) [hI] args (pL s) (.leaf .ret [itF (EK' s)] [(0, pO (LS' s))])
  | _ => .fail "pop"))
 | _ => none
def C2' (k : Int) (m : IMap Int) : Int := (AK' k m).getD 0
def hPut (s : Ps) (x : It) : AY' := AJ' [(EN', 1, 7, hv (.tuple [iv (C2' x.b s.m), .v (.bool (AK' x.b s.m).isSome)]))]
def fW' : AY' := AJ' [(EN', 1, 7, hv (.tuple [iv 0, .lit false]))]
abbrev k42' (q0 : Ps) (q1 : It) (q2 : HP) : Cnd := ((p' (findKey Try.prog (env0 [(59,M5' q0)] (hPut q0 q1) [] q2) 3 (z' q1.b) (mE iv q0.m) 0 = AP.ret (AO' (z' q1.b) (mE iv q0.m) 0))).a ((p' (B7' (AO' (z' q1.b) (mE iv q0.m) 0) (vi' I' (o' 0)) = v' (vi' I' (B7' (AO' (z' q1.b) (mE iv q0.m) 0) (vi' I' (o' 0))).intOf))).a (f' (Wk (AV.tuple [v' (vi' I' (B7' (AO' (z' q1.b) (mE iv q0.m) 0) (vi' I' (o' 0))).intOf),v' (vb' (AO' (z' q1.b) (mE iv q0.m) 0).isSome)]) (AV.tuple [z' (C2' q1.b q0.m),v' (vb' (AK' q1.b q0.m).isSome)])))))
abbrev _root_.Go.Proofs.Ytjjjchmkonnpfaa.h43' (q0 : It) (z : Cnd) : Cnd := ((fe' true).a ((ee' (z' q0.b)).a z))
theorem ZF' (s : Ps) (x : It) (F : HP) : oRun [(EX', M5' s)] (hPut s x) [] EN' [.ptr 0 0, itA x] (pL s) [0, 1001, 1002] F = VT.ite (AK' x.b s.m).isSome (VT.leaf (b' false) [some (ce' [AV.slice 1001 0 s.xs.length 3 (Cp.lo (s.xs.length + s.g.length)),AV.map 1002] 170),some (ce' (rowV enc (s.xs ++ s.g)) 142),some (AO.map (mE iv s.m) s.ck)] 1101 (h43' x ((k42' s x F).a k1'))) (VT.leaf (b' true) [some (AO.own (Md.pile (JG' s (It.mk x.a x.b x.c))) (pH (JG' s (It.mk x.a x.b x.c)))),none,none] 1101 (h43' x ((k42' s x F).a ((k27' x).a (((p' (96 = 96 /\ 71 = 71 /\ Room s /\ PI s)).a ((vw' [AV.iface 96 (pt' 0 0),AV.iface 71 (AV.agg [z' x.a,z' x.b,z' x.c])]).a ((ow' (ce' [AV.slice 1001 0 s.xs.length 3 (Cp.lo (s.xs.length + s.g.length)),AV.map 1002] 170)).a ((p' (OW (ce' (rowV enc (s.xs ++ s.g)) 142) (ce' (AV.rens (MC' 0 1001 1002) (rowV enc (s.xs ++ s.g))) 142))).a (f' (OW (AO.map (mE iv s.m) s.ck) (AO.map (renE (MC' 0 1001 1002) (mE iv s.m)) s.ck))))))).a k1'))))) := χ
theorem VZ' (x : It) (F : HP) : oRun [(EX', JN')] fW' [] EN' [.ptr 0 0, itA x] pL0 [0, 1001, 1002] F = VT.leaf (b' true) [some (AO.own (Md.pile (BH' GJ' (It.mk x.a x.b x.c))) (pH (BH' GJ' (It.mk x.a x.b x.c)))),none,none] 1101 (h43' x (((p' (findKey Try.prog (env0 [(59,JN')] fW' [] F) 3 (z' x.b) [] 0 = AP.ret none)).a ((p' (i' 0 = i' 0)).a (f' (Wk (AV.tuple [i' 0,b' false]) (AV.tuple [i' 0,g']))))).a ((k27' x).a (((p' (96 = 96 /\ 71 = 71)).a ((vw' [AV.iface 96 (pt' 0 0),AV.iface 71 (AV.agg [z' x.a,z' x.b,z' x.c])]).a ((ow' (ce' [e',AV.map 1002] 170)).a (f' (OW (AO.map [] 0) (AO.map [] 0)))))).a k1')))) := χ
abbrev k44' : Cnd := (p' ([i' 0,i' 0,i' 0] = [i' 0,i' 0,i' 0]))
theorem ZG' (s : Ps) (F : HP) : oRun [(RL', TI' s)] AF' [] EO' [.ptr 0 0] (pL s) [0, 1001, 1002] F = VT.ite (↑s.xs.length == o' 0) (VT.leaf (AV.tuple [AV.agg [i' 0,i' 0,i' 0],b' false]) [some (ce' [AV.slice 1001 0 s.xs.length 3 (Cp.lo (s.xs.length + s.g.length)),AV.map 1002] 170),some (ce' (rowV enc (s.xs ++ s.g)) 142),some (AO.map (mE iv s.m) s.ck)] 1101 (h19' (tt'.a (k44'.a k1')))) (VT.leaf (AV.tuple [AV.agg [v' (vi' I' (EK' s).a),v' (vi' I' (EK' s).b),v' (vi' I' (EK' s).c)],b' true]) [some (AO.own (Md.pile (LS' s)) (pH (LS' s))),none,none] 1102 (k6'.a (((p' (96 = 96 /\ PI s /\ 0 < s.xs.length)).a ((vw' [AV.iface 96 (pt' 0 0)]).a ((ow' (ce' [AV.slice 1001 0 s.xs.length 3 (Cp.lo (s.xs.length + s.g.length)),AV.map 1002] 170)).a ((p' (OW (ce' (rowV enc (s.xs ++ s.g)) 142) (ce' (AV.rens (MC' 0 1001 1002) (rowV enc (s.xs ++ s.g))) 142))).a (f' (OW (AO.map (mE iv s.m) s.ck) (AO.map (renE (MC' 0 1001 1002) (mE iv s.m)) s.ck))))))).a (k6'.a ((ee' [v' (vi' I' (EK' s).a),v' (vi' I' (EK' s).b),v' (vi' I' (EK' s).c)]).a (h12' ((p' ([v' (vi' I' (EK' s).a),v' (vi' I' (EK' s).b),v' (vi' I' (EK' s).c)] = [v' (vi' I' (EK' s).a),v' (vi' I' (EK' s).b),v' (vi' I' (EK' s).c)])).a k1'))))))) := χ
theorem W0' (F : HP) : oRun [] AF' [] EO' [.ptr 0 0] pL0 [0, 1002] F = VT.ite true (VT.leaf (AV.tuple [AV.agg [i' 0,i' 0,i' 0],b' false]) [some (ce' [e',AV.map 1002] 170),some (AO.map [] 0)] 1101 (h19' (tt'.a (k44'.a k1')))) (VT.bad "a number below nought") := χ
end
theorem L8' (s : Ps) (j : Nat) (h : PI s) : PI (upS s j) /\ (upS s j).xs.length = s.xs.length := by
 induction j using Nat.strongRecOn generalizing s with
 | ind j ih =>
  rw [upS]; split
  ·exact ⟨h, rfl⟩
  ·split
   ·have := ih ((j - 1) / 2) ω _ (h.swap ((j - 1) / 2) j); exact ⟨this.1, this.2.trans (B4' _ _ _)⟩
   ·exact ⟨h, rfl⟩
theorem GY' (n : Nat) : ∀ (d : Nat) (s : Ps) (i : Nat), n - i <= d -> PI s -> PI (AI' s i n).1 /\ (AI' s i n).1.xs.length = s.xs.length := by
 intro d
 induction d with
 | zero =>
  intro s i hd h; rw [AI', dif_pos ω]; exact ⟨h, rfl⟩
 | succ d ih =>
  intro s i hd h; rw [AI']; split
  ·exact ⟨h, rfl⟩
  ·split
   ·have hj := HY' s i n; have := ih (AE' s i (BJ' s i n)) (BJ' s i n) ω (h.swap i (BJ' s i n)); exact ⟨this.1, this.2.trans (B4' _ _ _)⟩
   ·exact ⟨h, rfl⟩
theorem CX' {ks : List Nat} {os : List (Option AO)} {u : AV} (hv : VW [u] (AV.rens (sg []) [v])) (ho : ∃ o1, getK ks os 0 = some o1 /\ OW o1 (o.ren (sg []))) : Fits ks [u] os [v] [(0, o)] := (HV' hv ho).fits rfl
theorem upL_ok (F : HP) : L1OK Θ F (E0' fUp) upL := by
 intro st W0 N h w tmps tmps' ax a h' n n' lg lg' c Q he hc r ha hf hK; unfold upL at he; split at he
 ·rename_i t i j rest; obtain ⟨o, ho, he⟩ := B1' he; split at he
  ·rename_i s hh; obtain ⟨c1, he2, rfl⟩ := A9' he; obtain ⟨⟨h1, h2, h3⟩, hc2⟩ := (Cnd.and_iff _ _).1 hc
   have hcl : ClosedC (upA j.toNat) [(0, pO s)] (anys 23) [(0, pO (upS s j.toNat))] := ⟨rfl, rfl, ⟨rfl, Ye, JM' _ _⟩, (fun x hx => by simp only [List.mem_singleton] at hx; subst hx; trivial), JM' _ _, fun x hx => by simp only [List.mem_singleton] at hx; subst hx; trivial⟩
   exact L7' B6' (dE' s j.toNat h3 h2) hcl he2 hc2 r ha hf hK
  ·exact (A1' he).elim
 ·exact (A1' he).elim
theorem aU' (F : HP) : L1OK Θ F (E0' G3') UC' := by
 intro st W0 N h w tmps tmps' ax a h' n n' lg lg' c Q he hc r ha hf hK; unfold UC' at he; split at he
 ·rename_i t p i0 m x3 x4 x5 x6 i rest; obtain ⟨o, ho, he⟩ := B1' he; split at he
  ·rename_i s hh; obtain ⟨c1, he2, rfl⟩ := A9' he; obtain ⟨⟨h1, h2, h3, h4, h5, h6⟩, hc2⟩ := (Cnd.and_iff _ _).1 hc
   have hcl : ClosedC (GZ' i0.toNat m.toNat i.toNat) [(0, pO s)] (GZ' i0.toNat m.toNat (AI' s i.toNat m.toNat).2) [(0, pO (AI' s i.toNat m.toNat).1)] := ⟨rfl, rfl, ⟨rfl, Ye, Ye, Ye, Ye, Ye, Ye, Ye, JM' _ _⟩, (fun x hx => by simp only [List.mem_singleton] at hx; subst hx; trivial), ⟨rfl, Ye, Ye, Ye, Ye, Ye, Ye, Ye, JM' _ _⟩, fun x hx => by simp only [List.mem_singleton] at hx; subst hx; trivial⟩
   exact L7' B6' (X8' s i0.toNat m.toNat i.toNat h6 h4 h5) hcl he2 hc2 r ha hf hK
  ·exact (A1' he).elim
 ·exact (A1' he).elim
theorem up_tri (s : Ps) (j : Nat) (hP : PI s) (hj : j < s.xs.length) : Tri Θ default fUp [hI, iv (o' j)] [(0, pO s)] (.tuple []) [(0, pO (upS s j))] := by
 refine AR' (con := []) (hints := AF') (lc := [(fUp, 0, E0' fUp, upL)]) [0] rfl noC (fun x hx F => by simp only [List.mem_singleton] at hx; subst hx; exact upL_ok F) fun F => ?_
 rw [dV']; refine ⟨?_, CX' (Yb) ⟨_, rfl, Yc⟩⟩; refine ⟨rfl, ⟨Int.natCast_nonneg _, hj, hP⟩, VW.cons Ya (VW.cons Ya (JT' (n := 21) rfl)), Yc, Ye⟩
theorem aT' (s : Ps) (i n : Nat) (hP : PI s) (hn : n <= s.xs.length) (hi : i <= s.xs.length) : Tri Θ default G3' [hI, iv (o' i), iv (o' n)] [(0, pO s)] (.v (.bool (decide (i < (AI' s i n).2)))) [(0, pO (AI' s i n).1)] := by
 refine AR' (con := []) (hints := AF') (lc := [(G3', 2, E0' G3', UC')]) [0] rfl noC (fun x hx F => by simp only [List.mem_singleton] at hx; subst hx; exact aU' F) fun F => ?_
 rw [W4']
 have e : decide (o' (AI' s i n).snd > o' i) = decide (i < (AI' s i n).2) := by
  simp only [Int.ofNat_eq_natCast, gt_iff_lt, Int.ofNat_lt]
 refine ⟨?_, CX' (by rw [e]; exact Yb) ⟨_, rfl, Yc⟩⟩; refine ⟨rfl, ⟨Int.natCast_nonneg _, Int.natCast_nonneg _, Int.natCast_nonneg _, hn, hi, hP⟩, VW.cons Ya (VW.cons Ya (VW.cons Ya (VW.cons (Wk.any _) (VW.cons (Wk.any _) (VW.cons (Wk.any _) (VW.cons (Wk.any _) (VW.cons Ya (JT' (n := 40) rfl)))))))), Yc, Ye⟩
theorem cUp_ok (F : HP) : C1OK Θ F fUp cUp := by
 intro st W0 N h w args vargs v h' n n' lg lg' c p hp he hc r ha hf; unfold cUp at hp; split at hp
 ·rename_i t i j; cases hp; obtain ⟨c0, he0, rfl⟩ := A9' he; obtain ⟨ht, hc0⟩ := (Cnd.and_iff _ _).1 hc; have ht' : t = 96 := ht; subst ht'; obtain ⟨m, lg1, he1⟩ := GS' he0; split at he1
  ·rename_i s; obtain ⟨c1, he2, rfl⟩ := A9' he1; obtain ⟨⟨h1, h2, h3⟩, hc2⟩ := (Cnd.and_iff _ _).1 hc0; obtain ⟨j, rfl⟩ := Int.eq_ofNat_of_zero_le h1; exact EC' (up_tri s j h3 h2) ⟨rfl, Ye, Ye⟩ ⟨Ye, Ye⟩ trivial he2 hc2 r ha hf
  ·exact (A1' he1).elim
 ·cases hp
theorem b4' (F : HP) : C1OK Θ F G3' gJ' := by
 intro st W0 N h w args vargs v h' n n' lg lg' c p hp he hc r ha hf; unfold gJ' at hp; split at hp
 ·rename_i t q i m; cases hp; obtain ⟨c0, he0, rfl⟩ := A9' he; obtain ⟨ht, hc0⟩ := (Cnd.and_iff _ _).1 hc; have ht' : t = 96 := ht; subst ht'; obtain ⟨md, lg1, he1⟩ := GS' he0; split at he1
  ·rename_i s; obtain ⟨c1, he2, rfl⟩ := A9' he1; obtain ⟨⟨h1, h2, h3, h4, h5⟩, hc2⟩ := (Cnd.and_iff _ _).1 hc0; obtain ⟨m, rfl⟩ := Int.eq_ofNat_of_zero_le h1; obtain ⟨i, rfl⟩ := Int.eq_ofNat_of_zero_le h2; exact EC' (aT' s i m h5 h3 h4) ⟨rfl, Ye, Ye, Ye⟩ ⟨Ye, Ye⟩ trivial he2 hc2 r ha hf
  ·exact (A1' he1).elim
 ·cases hp
theorem O4' : ∀ x ∈ conH, ∀ F, C1OK Θ F x.1 x.2 := by
 intro x hx F
 rcases List.mem_cons.1 hx with rfl | hx
 ·exact cUp_ok F
 rcases List.mem_cons.1 hx with rfl | hx
 ·exact b4' F
 exact RR' x hx F
theorem T0' (s : Ps) (x : It) : (BH' s x).xs.length = s.xs.length + 1 := by simp [BH']
theorem PI.push {s : Ps} (h : PI s) (hR : Room s) (x : It) : PI (BH' s x) := ⟨h.m.mset _ _, by rw [T0']; exact hR⟩
theorem WR' (s : Ps) (x : It) (hP : PI s) (hR : Room s) : Tri Θ default EX' [hI, itF x] [(0, pO s)] (.tuple []) [(0, pO (JG' s x))] := by
 refine AR' (con := conH) (hints := AJ' [(EX', 1, 3, hv (iv (o' s.xs.length)))]) (lc := []) [0] rfl O4' noL fun F => ?_
 rw [W2']
 have hl : (s.xs ++ [x]).length = s.xs.length + 1 := by simp
 have hb := hP.big
 have hw : IntKind.i64.wrap (o' (s.xs ++ [x]).length - o' 1) = o' s.xs.length := by
  rw [hl, IntWalk.i64_in _ (by simp only [Z0]; omega)]; simp only [Z0]; omega
 refine ⟨?_, CX' (Yb) ⟨_, rfl, Yc⟩⟩; refine ⟨⟨rfl, hR, Yb, Yc, Ye⟩, ⟨Yb, Yc, Ye⟩, ⟨AW' hw, Ye⟩, ⟨rfl, ⟨Int.natCast_nonneg _, ?_, hP.push hR x⟩, Yb, Yc, Ye⟩, Ye⟩; show s.xs.length < (s.xs ++ [x]).length; omega
theorem SK' (s : Ps) : upS s 0 = s := by rw [upS, dif_pos rfl]
theorem U6' (x : It) : Tri Θ default EX' [hI, itF x] [(0, pO0)] (.tuple []) [(0, pO (BH' GJ' x))] := by
 refine AR' (con := conH) (hints := AJ' [(EX', 1, 3, hv (iv (o' 0)))]) (lc := []) [0] rfl O4' noL fun F => ?_
 rw [TW']
 have hP : PI (BH' GJ' x) := PI.push (s := GJ') ⟨MI.nil, by show 0 * 24 <= _; omega⟩ (by show (0 + 1) * 24 <= _; omega) x
 refine ⟨?_, CX' (Yb) ⟨_, rfl, OW.of_eq ?_⟩⟩
 ·simp only [ch']; and_intros; all_goals first | exact Ye | exact Yb | exact Yc | exact Ya | exact hP | rfl | decide
 ·show pO (upS (BH' GJ' x) 0) = pO (BH' GJ' x); rw [SK']
theorem aC' (s : Ps) (hP : PI s) (h0 : 0 < s.xs.length) : Tri Θ default RL' [hI] [(0, pO s)] (itF (EK' s)) [(0, pO (LS' s))] := by
 refine AR' (con := conH) (hints := AJ' [(RL', 1, 2, hv (iv (o' (s.xs.length - 1))))]) (lc := []) [0] rfl O4' noL fun F => ?_
 rw [ZJ']; have hb := hP.big
 have hw : IntKind.i64.wrap (o' s.xs.length - o' 1) = o' (s.xs.length - 1) := by
  rw [IntWalk.i64_in _ (by simp only [Z0]; omega)]; simp only [Z0]; omega
 have hsl := B4' s 0 (s.xs.length - 1); obtain ⟨hd1, hd2⟩ := GY' (s.xs.length - 1) _ (AE' s 0 (s.xs.length - 1)) 0 (Yd) (hP.swap 0 (s.xs.length - 1)); refine ⟨?_, CX' (Yb) ⟨_, rfl, Yc⟩⟩
 simp only [ch']; and_intros; all_goals first | exact Ye | exact Yb | exact Yc | exact AW' hw | exact hP.m | exact hP.swap _ _ | rfl | exact h0 | exact Int.natCast_nonneg _ | (show s.xs.length - 1 < _; omega) | (show s.xs.length - 1 <= (AE' s 0 (s.xs.length - 1)).xs.length; omega) | exact Nat.zero_le _ | (show 0 < (AI' (AE' s 0 (s.xs.length - 1)) 0 (s.xs.length - 1)).1.xs.length; omega) | (show (AI' (AE' s 0 (s.xs.length - 1)) 0 (s.xs.length - 1)).1.xs.length <= _; omega) | decide
theorem J0' (s : Ps) (hc : AV.cls (fun i => Nat.blt i 1000) vs) : Goes vs (pL s) vs [(0, pO s)] := by
 have := Goes.shut (σ := Unit) (R := fun _ => True) (L := fun _ => pL s) (m := .pile s) (H0 := []) (vs := vs) () trivial rfl ⟨_, _, rfl, rfl⟩ (by
  have e : (fun i => Nat.blt i 1000 || (getO ([] : LH) i).isSome) = fun i => Nat.blt i 1000 := by funext i; simp [getO]
  rw [e]; exact hc) (fun x hx => by cases hx)
 rwa [List.append_nil] at this
theorem MW' (hc : AV.cls (fun i => Nat.blt i 1000) vs) : Goes vs pL0 vs [(0, pO0)] := by
 have := Goes.shut (σ := Unit) (R := fun _ => True) (L := fun _ => pL0) (m := .pile0) (H0 := []) (vs := vs) () trivial rfl ⟨_, _, rfl, rfl⟩ (by
  have e : (fun i => Nat.blt i 1000 || (getO ([] : LH) i).isSome) = fun i => Nat.blt i 1000 := by funext i; simp [getO]
  rw [e]; exact hc) (fun x hx => by cases hx)
 rwa [List.append_nil] at this
theorem XF' (K : Nat -> Bool) : ∀ m : IMap Int, clE K (mE iv m)
 | [] => trivial
 | e :: m => ⟨Ye, Ye, XF' K m⟩
theorem RV' {s : Ps} (ha : AV.cls (kH (pL s)) A) (hv : AV.cls (kR (pL s) [(0, o)]) [v]) (ho : o.cl (kR (pL s) [(0, o)])) : ClosedC A (pL s) [v] [(0, o)] := by
 refine ⟨rfl, rfl, ha, fun x hx => ?_, hv, fun x hx => by simp only [List.mem_singleton] at hx; subst hx; exact ho⟩
 simp only [pL, List.mem_cons, List.not_mem_nil, or_false] at hx
 rcases hx with rfl | rfl | rfl
 ·exact ⟨rfl, rfl, Ye⟩
 ·exact E8' _ _
 ·exact XF' _ _
theorem UF' (s : Ps) (F : HP) : C1OK Θ F EX' (M5' s) := by
 intro st W0 N h w args vargs v h' n n' lg lg' c p hp he hc r ha hf; unfold M5' at hp; split at hp
 ·rename_i t i t' a b c; cases hp; obtain ⟨c0, he0, rfl⟩ := A9' he; obtain ⟨⟨rfl, rfl, hR, hP⟩, hc0⟩ := (Cnd.and_iff _ _).1 hc; obtain ⟨o, ho, he1⟩ := B1' he0; split at he1
  ·exact DT' B6' (Tri.pre (J0' s (vs := [hI, itF ⟨a, b, c⟩]) ⟨rfl, ⟨Ye, Ye, Ye, Ye⟩, Ye⟩) (WR' s ⟨a, b, c⟩ hP hR)) rfl (RV' (s := s) (A := [hI, itF ⟨a, b, c⟩]) (v := .tuple []) (o := pO (JG' s ⟨a, b, c⟩)) ⟨rfl, ⟨Ye, Ye, Ye, Ye⟩, Ye⟩ ⟨Ye, Ye⟩ trivial) he1 hc0 r ha hf
  ·exact (A1' he1).elim
 ·cases hp
theorem RY' (F : HP) : C1OK Θ F EX' JN' := by
 intro st W0 N h w args vargs v h' n n' lg lg' c p hp he hc r ha hf; unfold JN' at hp; split at hp
 ·rename_i t i t' a b c; cases hp; obtain ⟨c0, he0, rfl⟩ := A9' he; obtain ⟨⟨rfl, rfl⟩, hc0⟩ := (Cnd.and_iff _ _).1 hc; obtain ⟨o, ho, he1⟩ := B1' he0; split at he1
  ·have hcl : ClosedC [hI, itF ⟨a, b, c⟩] pL0 [.tuple []] [(0, pO (BH' GJ' ⟨a, b, c⟩))] := by
    refine ⟨rfl, rfl, ⟨rfl, ⟨Ye, Ye, Ye, Ye⟩, Ye⟩, fun x hx => ?_, ⟨Ye, Ye⟩, fun x hx => by simp only [List.mem_singleton] at hx; subst hx; trivial⟩
    simp only [pL0, List.mem_cons, List.not_mem_nil, or_false] at hx
    rcases hx with rfl | rfl
    ·exact ⟨Ye, rfl, Ye⟩
    ·exact Ye
   exact DT' B6' (Tri.pre (MW' (vs := [hI, itF ⟨a, b, c⟩]) ⟨rfl, ⟨Ye, Ye, Ye, Ye⟩, Ye⟩) (U6' ⟨a, b, c⟩)) rfl hcl he1 hc0 r ha hf
  ·exact (A1' he1).elim
 ·cases hp
theorem XM' (s : Ps) (F : HP) : C1OK Θ F RL' (TI' s) := by
 intro st W0 N h w args vargs v h' n n' lg lg' c p hp he hc r ha hf; unfold TI' at hp; split at hp
 ·rename_i t i; cases hp; obtain ⟨c0, he0, rfl⟩ := A9' he; obtain ⟨⟨rfl, hP, h0⟩, hc0⟩ := (Cnd.and_iff _ _).1 hc; obtain ⟨o, ho, he1⟩ := B1' he0; split at he1
  ·exact DT' B6' (Tri.pre (J0' s (vs := [hI]) ⟨rfl, Ye⟩) (aC' s hP h0)) rfl (RV' (s := s) (A := [hI]) (v := itF (EK' s)) (o := pO (LS' s)) ⟨rfl, Ye⟩ ⟨⟨Ye, Ye, Ye, Ye⟩, Ye⟩ trivial) he1 hc0 r ha hf
  ·exact (A1' he1).elim
 ·cases hp
theorem N0' {g : List AV -> Option (AP AV)} (h : ∀ F, C1OK Θ F f g) : ∀ x ∈ [(f, g)], ∀ F, C1OK Θ F x.1 x.2 := fun x hx F => by simp only [List.mem_singleton] at hx; subst hx; exact h F
theorem fO' : Tri Θ default fNew [] [] (.ptr 1000 0) [(1000, pO0)] := by
 refine AR' (con := []) (hints := AF') (lc := []) [1100, 1101] rfl noC noL fun F => ?_
 rw [R6']; refine ⟨Ye, [.ptr 1000 0], renL 1000 pL0, [(1000, 1101), (1002, 1100)], rfl, BC' _ χ χ (Yb) ⟨⟨_, rfl, Yc⟩, ⟨_, rfl, Yc⟩, Ye⟩, ?_⟩
 exact Goes.shutNew (σ := Unit) (R := fun _ => True) (L := fun _ => pL0) (m := .pile0) 1000 ⟨δ, by decide⟩ () trivial rfl rfl ⟨_, _, rfl, rfl⟩ ⟨rfl, Ye⟩
theorem a7' (s : Ps) : Tri Θ default EP' [.ptr 0 0] [(0, pO s)] (iv (o' s.xs.length)) [(0, pO s)] := by
 refine CH' (AR' (con := []) (hints := AF') (lc := []) [0, 1001, 1002] rfl noC noL fun F => ?_); rw [ZH']; exact ⟨by simp only [ch', and_self], CK' s [(1001, 1001), (1002, 1002)] χ χ (Yb) ⟨Ye, Ye⟩ (CI' s rfl rfl rfl rfl rfl rfl)⟩
theorem WJ' : Tri Θ default EP' [.ptr 0 0] [(0, pO0)] (iv (o' 0)) [(0, pO0)] := by
 refine DL' (AR' (con := []) (hints := AF') (lc := []) [0, 1002] rfl noC noL fun F => ?_); rw [W1']; exact ⟨by simp only [ch', and_self], GI' [(1002, 1002)] χ χ (Yb) ⟨Ye, Ye⟩ ⟨⟨_, rfl, Yc⟩, ⟨_, rfl, Yc⟩, Ye⟩⟩
def isIn (k : Int) (s : Ps) : Bool := (AK' k s.m).isSome
def putS (s : Ps) (x : It) : Ps := match isIn x.b s with
 | true => s
 | false => JG' s x
theorem T7' (k : Int) (m : IMap Int) : B7' (AO' (.v (.int .i64 k)) (mE iv m) 0) (.int .i64 (o' 0)) = iv (C2' k m) := by
 rw [O1', C2']
 cases AK' k m <;> rfl
theorem a5' (s : Ps) (x : It) (hP : PI s) (hR : Room s) : Tri Θ default EN' [.ptr 0 0, itA x] [(0, pO s)] (.v (.bool (!isIn x.b s))) [(0, pO (putS s x))] := by
 refine CH' (AR' (con := [(EX', M5' s)]) (hints := hPut s x) (lc := []) [0, 1001, 1002] rfl (N0' (UF' s)) noL fun F => ?_); rw [ZF']; have e1 := T7' x.b s.m; have e2 := KM' (ev := iv) x.b s.m
 have e3 : Wk (AV.tuple [v' (vi' I' (B7' (AO' (.v (.int .i64 x.b)) (mE iv s.m) 0) (.int .i64 (o' 0))).intOf), v' (vb' (AO' (v' (vi' I' x.b)) (mE iv s.m) 0).isSome)]) (AV.tuple [v' (vi' I' (C2' x.b s.m)), v' (vb' (AK' x.b s.m).isSome)]) := by
  refine Wk.of_eq ?_; rw [e1, e2]; rfl
 refine ⟨fun h1 => ⟨?_, ?_⟩, fun h1 => ⟨?_, ?_⟩⟩
 ·exact Cq4'
 ·have hi : isIn x.b s = true := h1
  have hp : putS s x = s := by rw [putS, hi]
  rw [hi, hp]; exact CK' s [(1001, 1001), (1002, 1002)] χ χ (Yb) ⟨Ye, Ye⟩ (CI' s rfl rfl rfl rfl rfl rfl)
 ·simp only [ch']; and_intros; all_goals first | exact Ye | exact AS' intT _ _ _ | exact e3 | exact hR | exact hP | exact Kq24'
 ·have hi : isIn x.b s = false := h1
  have hp : putS s x = JG' s x := by rw [putS, hi]
  rw [hi, hp]; exact CX' (Yb) ⟨_, rfl, Yc⟩
theorem WF' (x : It) : Tri Θ default EN' [.ptr 0 0, itA x] [(0, pO0)] (.v (.bool true)) [(0, pO (BH' GJ' x))] := by
 refine DL' (AR' (con := [(EX', JN')]) (hints := fW') (lc := []) [0, 1001, 1002] rfl (N0' RY') noL fun F => ?_); rw [VZ']
 have e3 : Wk (AV.tuple [v' (vi' I' (o' 0)), v' (vb' false)]) (AV.tuple [v' (vi' I' (o' 0)), AV.lit false]) := by
  intro N y hy; simp only [VR, VRs] at hy ⊢; exact hy
 refine ⟨?_, CX' (Yb) ⟨_, rfl, Yc⟩⟩
 simp only [ch']; and_intros; all_goals first | exact Ye | exact e3 | exact Yb | exact Yc | rfl
def WH' (s : Ps) : Ps := if s.xs.length = 0 then s else LS' s
def WG' (s : Ps) : It := if s.xs.length = 0 then It.zero else EK' s
theorem a6' (s : Ps) (hP : PI s) : Tri Θ default EO' [.ptr 0 0] [(0, pO s)] (.tuple [itA (WG' s), .v (.bool (!decide (s.xs.length = 0)))]) [(0, pO (WH' s))] := by
 refine CH' (AR' (con := [(RL', TI' s)]) (hints := AF') (lc := []) [0, 1001, 1002] rfl (N0' (XM' s)) noL fun F => ?_); rw [ZG']
 have hz : ((s.xs.length : Int) == o' 0) = decide (s.xs.length = 0) := by
  by_cases h : s.xs.length = 0
  ·rw [h]; rfl
  ·simp only [h, decide_false]; apply beq_eq_false_iff_ne.2; simp only [Z0]; omega
 rw [hz]
 refine ⟨fun h1 => ⟨?_, ?_⟩, fun h1 => ⟨?_, ?_⟩⟩
 ·simp only [ch']; and_intros; all_goals first | exact Ye | rfl
 ·simp only [decide_eq_true_eq] at h1; have e1 : WG' s = It.zero := if_pos h1; have e2 : WH' s = s := if_pos h1
  have e3 : (!decide (s.xs.length = 0)) = false := by rw [decide_eq_true h1]; rfl
  rw [e1, e2, e3]; exact CK' s [(1001, 1001), (1002, 1002)] χ χ (Yb) ⟨⟨⟨Ye, Ye, Ye, Ye⟩, Ye, Ye⟩, Ye⟩ (CI' s rfl rfl rfl rfl rfl rfl)
 ·simp only [decide_eq_false_iff_not] at h1
  simp only [ch']; and_intros; all_goals first | exact Ye | exact hP | exact Yb | exact Yc | exact OW.of_eq (by rw [A8']) | exact OW.of_eq (by rw [LI']) | omega | rfl
 ·simp only [decide_eq_false_iff_not] at h1; have e1 : WG' s = EK' s := if_neg h1; have e2 : WH' s = LS' s := if_neg h1; have e3 : decide (s.xs.length = 0) = false := decide_eq_false h1; rw [e1, e2, e3]; exact CX' (Yb) ⟨_, rfl, Yc⟩
theorem WI' : Tri Θ default EO' [.ptr 0 0] [(0, pO0)] (.tuple [itA It.zero, .v (.bool false)]) [(0, pO0)] := by
 refine DL' (AR' (con := []) (hints := AF') (lc := []) [0, 1002] rfl noC noL fun F => ?_); rw [W0']
 refine ⟨fun _ => ⟨?_, GI' [(1002, 1002)] χ χ (Yb) ⟨⟨⟨Ye, Ye, Ye, Ye⟩, Ye, Ye⟩, Ye⟩ ⟨⟨_, rfl, Yc⟩, ⟨_, rfl, Yc⟩, Ye⟩⟩, fun h => by cases h⟩
 simp only [ch']; and_intros; all_goals first | exact Ye | rfl
def ins (x : It) : List It -> List It
 | [] => [x]
 | y :: l => if ahead x y = true then x :: y :: l else y :: ins x l
theorem ins_perm (x : It) : ∀ l, (ins x l).Perm (x :: l)
 | [] => List.Perm.refl _
 | y :: l => by
  rw [ins]; split
  ·exact List.Perm.refl _
  ·exact ((ins_perm x l).cons y).trans (List.Perm.swap x y l)
abbrev MP' (L : List It) : Prop := L.Pairwise (fun a b => ahead a b = true)
theorem N9' {x : It} : ∀ {L : List It}, MP' L -> (∀ y ∈ L, y.b ≠ x.b) -> MP' (ins x L)
 | [], _, _ => List.pairwise_singleton _ _
 | y :: l, h, hb => by
  rw [ins]; obtain ⟨h1, h2⟩ := List.pairwise_cons.1 h; split
  ·rename_i ha
   refine List.pairwise_cons.2 ⟨fun z hz => ?_, h⟩
   rcases List.mem_cons.1 hz with rfl | hz
   ·exact ha
   ·exact S3' ha (h1 z hz)
  ·rename_i ha
   refine List.pairwise_cons.2 ⟨fun z hz => ?_, N9' h2 fun z hz => hb z (List.mem_cons_of_mem _ hz)⟩
   rcases List.mem_cons.1 ((ins_perm x l).subset hz) with rfl | hz
   ·exact S4' (show nb y z by rw [nb]; simpa using ha) (hb y ms')
   ·exact h1 z hz
structure AbsS (s : Ps) (L : List It) : Prop where
 pi : PI s
 map : JQ' s
 heap : II' (at' s) s.xs.length
 perm : L.Perm s.xs
 sorted : MP' L
theorem AbsS.len {s : Ps} {L : List It} (h : AbsS s L) : s.xs.length = L.length := h.perm.length_eq.symm
theorem KH' {s : Ps} {x : It} : x ∈ s.xs ↔ ∃ i, i < s.xs.length /\ at' s i = x := by
 rw [List.mem_iff_getElem]
 constructor
 ·rintro ⟨i, hi, h⟩; exact ⟨i, hi, (NH' s i hi).trans h⟩
 ·rintro ⟨i, hi, h⟩; exact ⟨i, hi, (NH' s i hi).symm.trans h⟩
theorem AbsS.isIn {s : Ps} {L : List It} (h : AbsS s L) (k : Int) : isIn k s = L.any fun y => y.b == k := by
 rw [Bool.eq_iff_iff, List.any_eq_true]; unfold Rk.isIn; rw [Option.isSome_iff_exists]
 constructor
 ·rintro ⟨v, hv⟩; obtain ⟨i, hi, hb, _⟩ := (h.map k v).1 hv
  exact ⟨at' s i, h.perm.mem_iff.2 (KH'.2 ⟨i, hi, rfl⟩), by simp [hb]⟩
 ·rintro ⟨y, hy, hb⟩; obtain ⟨i, hi, rfl⟩ := KH'.1 (h.perm.mem_iff.1 hy)
  exact ⟨i, (h.map k i).2 ⟨i, hi, by simpa using hb, rfl⟩⟩
theorem K4' (s : Ps) (x : It) (i : Nat) : at' (BH' s x) i = if i < s.xs.length then at' s i else if i = s.xs.length then x else It.zero := by
 simp only [at', BH', List.getD]
 by_cases h : i < s.xs.length
 ·rw [if_pos h, List.getElem?_append_left h]
 ·rw [if_neg h, List.getElem?_append_right ω]
  by_cases h2 : i = s.xs.length
  ·rw [if_pos h2, h2, Nat.sub_self]; rfl
  ·rw [if_neg h2, List.getElem?_eq_none (by simp; omega)]; rfl
theorem AbsS.push {s : Ps} {L : List It} (h : AbsS s L) (hR : Room s) (x : It) (hx : Rk.isIn x.b s = false) : AbsS (JG' s x) (ins x L) := by
 have hP := h.pi.push hR x; have hlen := T0' s x
 have hnew : ∀ i, i < s.xs.length -> (at' s i).b ≠ x.b := by
  intro i hi e; have := (h.map x.b i).2 ⟨i, hi, e, rfl⟩; unfold Rk.isIn at hx; rw [this] at hx; cases hx
 have hm : JQ' (BH' s x) := by
  intro k v; show AK' k (mset s.m s.ck x.b s.xs.length) = some v ↔ _; rw [E9', hlen]
  by_cases hk : k = x.b
  ·rw [if_pos hk]
   constructor
   ·intro e
    refine ⟨s.xs.length, by omega, ?_, (Option.some.inj e).symm⟩
    rw [K4', if_neg ω, if_pos rfl, hk]
   ·rintro ⟨i, hi, hb, rfl⟩; rw [K4'] at hb; split at hb
    ·rename_i hlt; exact absurd (hb.trans hk) (hnew i hlt)
    ·rw [show i = s.xs.length by omega]
  ·rw [if_neg hk, h.map k v]
   constructor
   ·rintro ⟨i, hi, hb, hv⟩
    exact ⟨i, by omega, by rw [K4', if_pos hi]; exact hb, hv⟩
   ·rintro ⟨i, hi, hb, hv⟩; rw [K4'] at hb; split at hb
    ·rename_i hlt; exact ⟨i, hlt, hb, hv⟩
    ·rw [if_pos ω] at hb; exact absurd hb.symm hk
 have hup : M9' (at' (BH' s x)) (BH' s x).xs.length s.xs.length := by
  rw [hlen]
  refine ⟨fun c hc hcn hne => ?_, fun c hc hcn e _ => ω⟩
  rw [K4', K4', if_pos ω, if_pos ω]; exact h.heap c hc ω
 obtain ⟨q1, q2⟩ := dF' s.xs.length (BH' s x) ω hup; obtain ⟨k1, k2⟩ := L8' (BH' s x) s.xs.length hP
 refine ⟨k1, bB' _ _ ω hm, by show II' (at' (upS _ _)) (upS _ _).xs.length; rw [k2]; exact q1, ?_, N9' h.sorted fun y hy => ?_⟩
 ·refine (ins_perm x L).trans ?_; refine ((h.perm.cons x).trans ?_).trans q2.symm; show (x :: s.xs).Perm (s.xs ++ [x]); exact (List.perm_append_comm (l₁ := [x]) (l₂ := s.xs))
 ·obtain ⟨i, hi, rfl⟩ := KH'.1 (h.perm.mem_iff.1 hy); exact hnew i hi
theorem AbsS.empty : AbsS GJ' [] := ⟨⟨MI.nil, by show 0 * 24 <= _; omega⟩, (fun k v => by
 show AK' k [] = some v ↔ _
 constructor
 ·intro h; cases h
 ·rintro ⟨i, hi, _⟩; cases hi), (fun c hc hcn => by cases hcn), List.Perm.refl _, List.Pairwise.nil⟩
theorem M0' (s : Ps) (k : Nat) (hk : k < s.xs.length - 1) : at' (popS s) k = at' s k := by
 show s.xs.dropLast.getD k It.zero = s.xs.getD k It.zero; rw [List.getD, List.getD, List.getElem?_dropLast, if_pos hk]
theorem AbsS.pop {s : Ps} {x : It} {L : List It} (h : AbsS s (x :: L)) : EK' s = x /\ AbsS (LS' s) L := by
 have hn : s.xs.length = L.length + 1 := h.len
 have h0 : 0 < s.xs.length := ω
 have hlast : s.xs.length - 1 < s.xs.length := ω
 have hsl := B4' s 0 (s.xs.length - 1)
 have hf : at' (AE' s 0 (s.xs.length - 1)) = BU' (at' s) 0 (s.xs.length - 1) := funext fun k => DV' s _ _ k h0 hlast
 have hdown : I4' (at' (AE' s 0 (s.xs.length - 1))) (s.xs.length - 1) 0 := by
  rw [hf]
  refine ⟨fun c hc hcn hne => ?_, fun c _ _ _ h0' => ω⟩
  rw [BU', if_neg ω, if_neg hne, BU', if_neg ω, if_neg ω]; exact h.heap c hc ω
 obtain ⟨q1, q2, q3⟩ := Q4' (s.xs.length - 1) _ (AE' s 0 (s.xs.length - 1)) 0 (Yd) ω hdown; obtain ⟨k1, k2⟩ := GY' (s.xs.length - 1) _ (AE' s 0 (s.xs.length - 1)) 0 (Yd) (h.pi.swap 0 (s.xs.length - 1)); have hDlen : (EL' s).xs.length = s.xs.length := k2.trans hsl; have hmap : JQ' (EL' s) := TE' _ _ _ _ (Yd) ω (h.map.swap h0 hlast)
 have hroot : at' (EL' s) (s.xs.length - 1) = at' s 0 := by
  show at' (AI' _ _ _).1 _ = _; rw [q3 _ (Yd), hf, BU', if_pos rfl]
 have hx : at' s 0 = x := by
  have hm : at' s 0 ∈ x :: L := h.perm.mem_iff.2 (KH'.2 ⟨0, h0, rfl⟩)
  rcases List.mem_cons.1 hm with e | e
  ·exact e
  ·have h1 := (List.pairwise_cons.1 h.sorted).1 _ e; obtain ⟨i, hi, hxi⟩ := KH'.1 (h.perm.mem_iff.1 (ms' (a := x) (l := L))); have h2 := WU' h.heap i hi; rw [hxi, nb, h1] at h2; cases h2
 have hlastD : at' (EL' s) ((EL' s).xs.length - 1) = x := by rw [hDlen, hroot, hx]
 refine ⟨hlastD, ?_⟩
 have hpl : (LS' s).xs.length = s.xs.length - 1 := by
  show (EL' s).xs.dropLast.length = _; rw [List.length_dropLast, hDlen]
 have hat : ∀ k, k < s.xs.length - 1 -> at' (LS' s) k = at' (EL' s) k := fun k hk => M0' _ _ (by rw [hDlen]; exact hk)
 refine ⟨⟨k1.m.mdel _, by have := k1.big; rw [hpl]; have e : (AI' (AE' s 0 (s.xs.length - 1)) 0 (s.xs.length - 1)).1.xs.length = s.xs.length := hDlen; omega⟩, ?_, ?_, ?_, (List.pairwise_cons.1 h.sorted).2⟩
 ·intro k v; show AK' k (mdel (EL' s).m (at' (EL' s) ((EL' s).xs.length - 1)).b) = some v ↔ _; have hDm : MI (EL' s).m (EL' s).ck := k1.m; rw [DM' hDm, hpl, hDlen]
  by_cases hk : k = (at' (EL' s) (s.xs.length - 1)).b
  ·rw [if_pos hk]
   constructor
   ·intro e; cases e
   ·rintro ⟨i, hi, hb, _⟩; rw [hat i hi] at hb; have := hmap.inj (i := i) (j := s.xs.length - 1) (by rw [hDlen]; omega) (by rw [hDlen]; omega) (hb.trans hk); omega
  ·rw [if_neg hk, hmap k v, hDlen]
   constructor
   ·rintro ⟨i, hi, hb, hv⟩
    have hne : i ≠ s.xs.length - 1 := fun e => hk (by rw [<- hb, e])
    exact ⟨i, by omega, by rw [hat i ω]; exact hb, hv⟩
   ·rintro ⟨i, hi, hb, hv⟩
    exact ⟨i, by omega, by rw [<- hat i hi]; exact hb, hv⟩
 ·rw [hpl]; intro c hc hcn; rw [hat c hcn, hat _ ω]; exact q1 c hc hcn
 ·have hp : (x :: L).Perm (EL' s).xs := h.perm.trans ((q2.trans (G7' s 0 (s.xs.length - 1) h0 hlast)).symm)
  have hne : (EL' s).xs ≠ [] := fun e => by rw [e] at hDlen; simp only [List.length_nil] at hDlen; omega
  have hl : (EL' s).xs.getLast hne = x := by
   rw [List.getLast_eq_getElem, <- hlastD, NH' _ _ (by rw [hDlen]; exact hlast)]
  have hsplit : (EL' s).xs = (EL' s).xs.dropLast ++ [x] := by rw [<- hl]; exact (List.dropLast_concat_getLast hne).symm
  rw [hsplit] at hp; have := hp.trans (List.perm_append_comm (l₁ := (EL' s).xs.dropLast) (l₂ := [x])); exact (List.perm_cons x).1 this
def Abs : Option Ps -> List It -> Prop
 | none, L => L = []
 | some s, L => AbsS s L
def pLO : Option Ps -> LH
 | none => pL0
 | some s => pL s
def lH (L : List It) : Nat -> Nat -> HP := exHP (fun o : Option Ps => Abs o L) pLO
def lO (L : List It) : AO := .own (.line L) (lH L)
theorem GT' {s : Ps} {L : List It} (h : AbsS s L) : OW (pO s) (lO L) := fun N i D w ⟨l, h1, h2, _, _, h3⟩ => ⟨l, h1, h2, some s, h, h3⟩
theorem JA' : OW pO0 (lO []) := fun N i D w ⟨l, h1, h2, _, _, h3⟩ => ⟨l, h1, h2, none, rfl, h3⟩
theorem DU' {o' : AO} (hi : i < 1100) (h : OW o o') : Goes vs [(i, o)] vs [(i, o')] := by
 intro W0 F N ys w ⟨N', g1, g2, r, hv⟩
 have hlim : i < T.limit := by have : T.limit = 1048576 := rfl; omega
 have hf : ∀ (a : AO) j b, (AN' [(i, a)]).find j = some b -> j = i /\ b = a := by
  intro a j b hj; rw [AG' (by simp only [AD', List.all_cons, List.all_nil, Bool.and_true, Nat.blt_eq]; exact hlim), getO] at hj; split at hj
  ·rename_i e; cases hj; exact ⟨e, rfl⟩
  ·cases hj
 have hf2 : (AN' [(i, o)]).find i = some o := by
  rw [AG' (by simp only [AD', List.all_cons, List.all_nil, Bool.and_true, Nat.blt_eq]; exact hlim), getO, if_pos rfl]
 refine ⟨N', g1, fun j hj hg => g2 j hj ?_, ?_, hv⟩
 ·rw [getO] at hg ⊢; split at hg
  ·cases hg
  ·rename_i e; rw [if_neg e]; rfl
 ·obtain ⟨D0, D, h1, h2, h3⟩ := r.sat
  refine ⟨r.os, r.tape, r.output, D0, D, h1, fun j b hj => ?_, fun j k b b' hj hk hjk => ?_⟩
  ·obtain ⟨rfl, rfl⟩ := hf _ j b hj; exact ⟨h _ _ _ _ (h2 j o hf2).1, (h2 j o hf2).2⟩
  ·exact (hjk ((hf _ j b hj).1.trans (hf _ k b' hk).1.symm)).elim
theorem GD' {L : List It} {H' : LH} (hA : AV.cls (fun i => Nat.blt i 1000) A) (h1 : ∀ s, AbsS s L -> Tri Θ default f A [(0, pO s)] v H') (h0 : L = [] -> Tri Θ default f A [(0, pO0)] v H') : Tri Θ default f A [(0, lO L)] v H' := by
 refine Tri.open (σ := Option Ps) (R := fun o => Abs o L) (L := pLO) (H0 := []) (fun o => by cases o <;> rfl) (fun o x hx => ?_) (fun o => by cases o <;> exact ⟨_, rfl⟩) (fun o ho => ?_)
 ·cases o with
  | none =>
   have hx : x ∈ pL0 := hx; simp only [pL0, List.mem_cons, List.not_mem_nil, or_false] at hx
   rcases hx with rfl | rfl
   ·exact ⟨Ye, rfl, Ye⟩
   ·exact Ye
  | some s =>
   have hx : x ∈ pL s := hx; simp only [pL, List.mem_cons, List.not_mem_nil, or_false] at hx
   rcases hx with rfl | rfl | rfl
   ·exact ⟨rfl, rfl, Ye⟩
   ·exact E8' _ _
   ·exact XF' _ _
 ·rw [List.append_nil]
  cases o with
  | none => exact Tri.pre (MW' hA) (h0 ho)
  | some s => exact Tri.pre (J0' s hA) (h1 s ho)
def CP' (k : Int) (L : List It) : Bool := L.any fun y => y.b == k
def putL (L : List It) (x : It) : List It := match CP' x.b L with
 | true => L
 | false => ins x L
def MQ' (L : List It) : Prop := (L.length + 1) * 24 <= 140737488355328
theorem Aput_tri (L : List It) (x : It) (hR : MQ' L) : Tri Θ default EN' [.ptr 0 0, itA x] [(0, lO L)] (.v (.bool (!CP' x.b L))) [(0, lO (putL L x))] := by
 refine GD' ⟨rfl, ⟨Ye, Ye, Ye, Ye⟩, Ye⟩ (fun s hs => ?_) (fun e => ?_)
 ·have hR' : Room s := by unfold Room; rw [hs.len]; exact hR
  have e1 := hs.isIn x.b; have ht := a5' s x hs.pi hR'; rw [e1] at ht; refine Tri.post ht (DU' δ ?_)
  cases hb : CP' x.b L with
  | true =>
   have : isIn x.b s = true := e1.trans hb; rw [putL, hb, putS, this]; exact GT' hs
  | false =>
   have : isIn x.b s = false := e1.trans hb; rw [putL, hb, putS, this]; exact GT' (hs.push hR' x this)
 ·subst e; refine Tri.post (WF' x) (DU' δ ?_); have := AbsS.empty.push (by show (0 + 1) * 24 <= _; omega) x rfl; have e : JG' GJ' x = BH' GJ' x := SK' _; rw [e] at this; exact GT' this
theorem Apop_tri (L : List It) : Tri Θ default EO' [.ptr 0 0] [(0, lO L)] (.tuple [itA (L.headD It.zero), .v (.bool (!L.isEmpty))]) [(0, lO L.tail)] := by
 refine GD' ⟨rfl, Ye⟩ (fun s hs => ?_) (fun e => ?_)
 ·have ht := a6' s hs.pi
  cases L with
  | nil =>
   have h0 : s.xs.length = 0 := hs.len; have e1 : WG' s = It.zero := if_pos h0; have e2 : WH' s = s := if_pos h0
   have e3 : (!decide (s.xs.length = 0)) = false := by rw [decide_eq_true h0]; rfl
   rw [e1, e2, e3] at ht; exact Tri.post ht (DU' δ (GT' hs))
  | cons x L =>
   have h0 : s.xs.length ≠ 0 := by rw [hs.len]; simp
   have e1 : WG' s = EK' s := if_neg h0; have e2 : WH' s = LS' s := if_neg h0
   have e3 : (!decide (s.xs.length = 0)) = true := by rw [decide_eq_false h0]; rfl
   rw [e1, e2, e3, hs.pop.1] at ht; exact Tri.post ht (DU' δ (GT' hs.pop.2))
 ·subst e; exact Tri.post WI' (DU' δ JA')
theorem Alen_tri (L : List It) : Tri Θ default EP' [.ptr 0 0] [(0, lO L)] (iv (o' L.length)) [(0, lO L)] := by
 refine GD' ⟨rfl, Ye⟩ (fun s hs => ?_) (fun e => ?_)
 ·have ht := a7' s; rw [hs.len] at ht; exact Tri.post ht (DU' δ (GT' hs))
 ·subst e; exact Tri.post WJ' (DU' δ JA')
theorem Anew_tri : Tri Θ default fNew [] [] (.ptr 1000 0) [(1000, lO [])] := Tri.post fO' (DU' δ JA')
def remD (s : Ps) (i : Nat) : Ps := if s.xs.length - 1 = i then s else if i < (AI' (AE' s i (s.xs.length - 1)) i (s.xs.length - 1)).2 then (AI' (AE' s i (s.xs.length - 1)) i (s.xs.length - 1)).1 else upS (AI' (AE' s i (s.xs.length - 1)) i (s.xs.length - 1)).1 i
def remV (s : Ps) (i : Nat) : It := at' (remD s i) ((remD s i).xs.length - 1)
def remS (s : Ps) (i : Nat) : Ps := popS (remD s i)
theorem aB' (s : Ps) (i : Nat) (hP : PI s) (hi : i < s.xs.length) : Tri Θ default RK' [hI, iv (o' i)] [(0, pO s)] (itF (remV s i)) [(0, pO (remS s i))] := by
 refine AR' (con := conH) (hints := AJ' [(RK', 1, 2, hv (iv (o' (s.xs.length - 1))))]) (lc := []) [0] rfl O4' noL fun F => ?_
 rw [ZI']; have hb := hP.big
 have hw : IntKind.i64.wrap (o' s.xs.length - o' 1) = o' (s.xs.length - 1) := by
  rw [IntWalk.i64_in _ (by simp only [Z0]; omega)]; simp only [Z0]; omega
 have hne : (o' (s.xs.length - 1) != o' i) = !decide (s.xs.length - 1 = i) := by
  by_cases h : s.xs.length - 1 = i
  ·rw [h]; simp
  ·simp only [h, decide_false, Bool.not_false]; apply bne_iff_ne.2; simp only [Z0]; omega
 rw [hne]; have hsl := B4' s i (s.xs.length - 1); obtain ⟨hd1, hd2⟩ := GY' (s.xs.length - 1) _ (AE' s i (s.xs.length - 1)) i (Yd) (hP.swap i (s.xs.length - 1)); obtain ⟨hu1, hu2⟩ := L8' (AI' (AE' s i (s.xs.length - 1)) i (s.xs.length - 1)).1 i hd1
 refine ⟨fun h1 => ⟨fun h2 => ⟨?_, ?_⟩, fun h2 => ⟨?_, ?_⟩⟩, fun h1 => ⟨?_, ?_⟩⟩
 ·simp only [ch']; and_intros; all_goals first | exact Ye | exact Yb | exact Yc | exact AW' hw | exact hP.m | exact hP.swap _ _ | exact hd1 | rfl | exact hi | exact Int.natCast_nonneg _ | (show s.xs.length - 1 < _; omega) | (show s.xs.length - 1 <= (AE' s i (s.xs.length - 1)).xs.length; omega) | (show i <= (AE' s i (s.xs.length - 1)).xs.length; omega) | (show i < (AI' (AE' s i (s.xs.length - 1)) i (s.xs.length - 1)).1.xs.length; omega) | (show 0 < (upS (AI' (AE' s i (s.xs.length - 1)) i (s.xs.length - 1)).1 i).xs.length; omega) | (show (upS (AI' (AE' s i (s.xs.length - 1)) i (s.xs.length - 1)).1 i).xs.length <= _; omega)
 ·have e1 : ¬ s.xs.length - 1 = i := by simpa using h1
  have h2' : (!decide (i < (AI' (AE' s i (s.xs.length - 1)) i (s.xs.length - 1)).2)) = true := h2
  have e2 : ¬ i < (AI' (AE' s i (s.xs.length - 1)) i (s.xs.length - 1)).2 := by simpa using h2'
  have e : remD s i = upS (AI' (AE' s i (s.xs.length - 1)) i (s.xs.length - 1)).1 i := by rw [remD, if_neg e1, if_neg e2]
  rw [remV, remS, e]; exact CX' (Yb) ⟨_, rfl, Yc⟩
 ·simp only [ch']; and_intros; all_goals first | exact Ye | exact Yb | exact Yc | exact AW' hw | exact hP.m | exact hP.swap _ _ | rfl | exact hi | exact Int.natCast_nonneg _ | (show s.xs.length - 1 < _; omega) | (show s.xs.length - 1 <= (AE' s i (s.xs.length - 1)).xs.length; omega) | (show i <= (AE' s i (s.xs.length - 1)).xs.length; omega) | (show 0 < (AI' (AE' s i (s.xs.length - 1)) i (s.xs.length - 1)).1.xs.length; omega) | (show (AI' (AE' s i (s.xs.length - 1)) i (s.xs.length - 1)).1.xs.length <= _; omega)
 ·have e1 : ¬ s.xs.length - 1 = i := by simpa using h1
  have h2' : (!decide (i < (AI' (AE' s i (s.xs.length - 1)) i (s.xs.length - 1)).2)) = false := h2
  have e2 : i < (AI' (AE' s i (s.xs.length - 1)) i (s.xs.length - 1)).2 := by simpa using h2'
  have e : remD s i = (AI' (AE' s i (s.xs.length - 1)) i (s.xs.length - 1)).1 := by rw [remD, if_neg e1, if_pos e2]
  rw [remV, remS, e]; exact CX' (Yb) ⟨_, rfl, Yc⟩
 ·simp only [ch']; and_intros; all_goals first | exact Ye | exact Yb | exact Yc | exact AW' hw | omega
 ·have e1 : s.xs.length - 1 = i := by simpa using h1
  have e : remD s i = s := by rw [remD, if_pos e1]
  rw [remV, remS, e]; exact CX' (Yb) ⟨_, rfl, Yc⟩
theorem YJ' (n : Nat) : ∀ (j : Nat) (s : Ps), j < n -> n <= s.xs.length -> M9' (at' s) n j -> II' (at' (upS s j)) n /\ (upS s j).xs.Perm s.xs /\ ∀ k, n <= k -> at' (upS s j) k = at' s k := by
 intro j
 induction j using Nat.strongRecOn with
 | ind j ih =>
  intro s hj hn h; rw [upS]; split
  ·rename_i h0; exact ⟨GV' h (.inl h0), List.Perm.refl _, fun _ _ => rfl⟩
  ·split
   ·rename_i h0 ha
    have hp : (j - 1) / 2 < s.xs.length := ω
    have hf : at' (AE' s ((j - 1) / 2) j) = BU' (at' s) ((j - 1) / 2) j := funext fun k => DV' s _ _ k hp ω
    have h2 := LT' h ω hj ha; have := ih ((j - 1) / 2) ω (AE' s ((j - 1) / 2) j) ω (by rw [B4']; exact hn) (by rw [hf]; exact h2)
    refine ⟨this.1, this.2.1.trans (G7' s _ _ hp ω), fun k hk => ?_⟩
    rw [this.2.2 k hk, hf, BU', if_neg ω, if_neg ω]
   ·rename_i h0 ha
    exact ⟨GV' h (.inr (by rw [nb]; simpa using ha)), List.Perm.refl _, fun _ _ => rfl⟩
def OV' (f : Nat -> It) (n i : Nat) : Prop := (∀ c, 0 < c -> c < n -> c ≠ i -> (c - 1) / 2 ≠ i -> nb (f ((c - 1) / 2)) (f c)) /\ ∀ c, 0 < c -> c < n -> (c - 1) / 2 = i -> 0 < i -> nb (f ((i - 1) / 2)) (f c)
theorem WS' {f : Nat -> It} (h : OV' f n i) (hji : (j - 1) / 2 = i) (hj0 : 0 < j) (hjn : j < n) (ha : ahead (f j) (f i) = true) (hs : ∀ c, 0 < c -> c < n -> (c - 1) / 2 = i -> nb (f j) (f c)) (hcj : ∀ c, 0 < c -> c < n -> (c - 1) / 2 = j -> nb (f j) (f c)) : I4' (BU' f i j) n j := by
 have hij : i ≠ j := ω
 have e1 : BU' f i j j = f i := if_pos rfl
 have e2 : BU' f i j i = f j := by rw [BU', if_neg hij, if_pos rfl]
 have e3 : ∀ k, k ≠ j -> k ≠ i -> BU' f i j k = f k := fun k h1 h2 => by rw [BU', if_neg h1, if_neg h2]
 refine ⟨fun c hc hcn hne => ?_, fun c hc hcn hpc _ => ?_⟩
 ·by_cases h1 : (c - 1) / 2 = i
  ·rw [h1, e2]
   by_cases hcj' : c = j
   ·rw [hcj', e1]; exact D3' ha
   ·rw [e3 c hcj' ω]; exact hs c hc hcn h1
  ·rw [e3 _ hne h1]
   by_cases hci : c = i
   ·rw [hci, e2]; exact h.2 j hj0 hjn hji ω
   ·rw [e3 c (fun e => h1 (e ▸ hji)) hci]; exact h.1 c hc hcn hci h1
 ·rw [hji, e2, e3 c ω ω]; exact hcj c hc hcn hpc
theorem WT' (n : Nat) (s : Ps) (i : Nat) (hn : n <= s.xs.length) (hin : i < n) (h : OV' (at' s) n i) :
  (i < (AI' s i n).2 -> II' (at' (AI' s i n).1) n) /\ (¬ i < (AI' s i n).2 -> (AI' s i n).1 = s /\ M9' (at' s) n i) /\ (AI' s i n).1.xs.Perm s.xs /\ ∀ k, n <= k -> at' (AI' s i n).1 k = at' s k := by
 have snd_ge : ∀ (d : Nat) (s : Ps) (i : Nat), n - i <= d -> i <= (AI' s i n).2 := by
  intro d
  induction d with
  | zero => intro s i hd; rw [AI', dif_pos ω]; exact Yd
  | succ d ih =>
   intro s i hd; rw [AI']; split
   ·exact Yd
   ·have hg := HY' s i n; split
    ·exact Nat.le_trans (Nat.le_of_lt hg) (ih _ _ ω)
    ·exact Yd
 by_cases hlt : n <= 2 * i + 1
 ·have e : AI' s i n = (s, i) := by rw [AI', dif_pos hlt]
  rw [e]
  refine ⟨fun hh => absurd hh (Nat.lt_irrefl _), fun _ => ⟨rfl, fun c hc hcn hne => h.1 c hc hcn hne ω, h.2⟩, List.Perm.refl _, fun _ _ => rfl⟩
 ·have hjn := O3' s i n hlt
  have hji : (BJ' s i n - 1) / 2 = i := by unfold BJ'; split <;> omega
  have hj0 : 0 < BJ' s i n := by unfold BJ'; split <;> omega
  have hg := HY' s i n
  have hmin : ∀ c, 0 < c -> c < n -> (c - 1) / 2 = i -> nb (at' s (BJ' s i n)) (at' s c) := by
   intro c hc hcn e
   have hcase : c = 2 * i + 1 \/ c = 2 * i + 2 := ω
   unfold BJ'; split
   ·rename_i hh
    rcases hcase with rfl | rfl
    ·exact D3' hh.2
    ·exact DA' _
   ·rename_i hh
    rcases hcase with rfl | rfl
    ·exact DA' _
    ·cases hb : ahead (at' s (2 * i + 2)) (at' s (2 * i + 1)) with
     | false => exact hb
     | true => exact absurd ⟨hcn, hb⟩ hh
  by_cases ha : ahead (at' s (BJ' s i n)) (at' s i) = true
  ·have e : AI' s i n = AI' (AE' s i (BJ' s i n)) (BJ' s i n) n := by conv => lhs; rw [AI', dif_neg hlt, if_pos ha]
   rw [e]
   have hi2 : i < s.xs.length := ω
   have hj2 : BJ' s i n < s.xs.length := ω
   have hf : at' (AE' s i (BJ' s i n)) = BU' (at' s) i (BJ' s i n) := funext fun k => DV' s _ _ k hi2 hj2
   have hd := Q4' n _ (AE' s i (BJ' s i n)) (BJ' s i n) (Yd) (by rw [B4']; exact hn) (by
    rw [hf]
    refine WS' h hji hj0 hjn ha hmin fun c hc hcn hp => ?_
    have := h.1 c hc hcn ω ω
    rwa [hp] at this)
   have hge := snd_ge _ (AE' s i (BJ' s i n)) (BJ' s i n) (Yd)
   refine ⟨fun _ => hd.1, fun hh => absurd (Nat.lt_of_lt_of_le hg hge) hh, hd.2.1.trans (G7' s _ _ hi2 hj2), fun k hk => ?_⟩
   rw [hd.2.2 k hk, hf, BU', if_neg ω, if_neg ω]
  ·have e : AI' s i n = (s, i) := by rw [AI', dif_neg hlt, if_neg ha]
   rw [e]
   have ha' : nb (at' s i) (at' s (BJ' s i n)) := by simpa [nb] using ha
   refine ⟨fun hh => absurd hh (Nat.lt_irrefl _), fun _ => ⟨rfl, fun c hc hcn hne => ?_, h.2⟩, List.Perm.refl _, fun _ _ => rfl⟩
   by_cases hp : (c - 1) / 2 = i
   ·rw [hp]; exact HS' ha' (hmin c hc hcn hp)
   ·exact h.1 c hc hcn hne hp
theorem R5' {s : Ps} {x : It} {L : List It} (hP : PI s) (hm : JQ' s) (hn : s.xs.length = n + 1) (hh : II' (at' s) n) (hx : at' s n = x) (hperm : (x :: L).Perm s.xs) (hs : MP' L) : AbsS (popS s) L := by
 have hpl : (popS s).xs.length = n := by
  show s.xs.dropLast.length = _; rw [List.length_dropLast, hn]; rfl
 have hlast : s.xs.length - 1 = n := ω
 have hat : ∀ k, k < n -> at' (popS s) k = at' s k := fun k hk => M0' _ _ ω
 refine ⟨⟨hP.m.mdel _, by have := hP.big; rw [hpl]; omega⟩, ?_, ?_, ?_, hs⟩
 ·intro k v; show AK' k (mdel s.m (at' s (s.xs.length - 1)).b) = some v ↔ _; rw [DM' hP.m, hpl, hlast]
  by_cases hk : k = (at' s n).b
  ·rw [if_pos hk]
   constructor
   ·intro e; cases e
   ·rintro ⟨i, hi, hb, _⟩; rw [hat i hi] at hb; have := hm.inj (i := i) (j := n) ω ω (hb.trans hk); omega
  ·rw [if_neg hk, hm k v, hn]
   constructor
   ·rintro ⟨i, hi, hb, hv⟩
    have hne : i ≠ n := fun e => hk (by rw [<- hb, e])
    exact ⟨i, by omega, by rw [hat i ω]; exact hb, hv⟩
   ·rintro ⟨i, hi, hb, hv⟩
    exact ⟨i, by omega, by rw [<- hat i hi]; exact hb, hv⟩
 ·rw [hpl]; intro c hc hcn; rw [hat c hcn, hat _ ω]; exact hh c hc hcn
 ·have hne : s.xs ≠ [] := fun e => by rw [e] at hn; cases hn
  have hl : s.xs.getLast hne = x := by
   rw [List.getLast_eq_getElem, <- hx, NH' _ _ ω]
   congr 1
  have hsplit : s.xs = s.xs.dropLast ++ [x] := by rw [<- hl]; exact (List.dropLast_concat_getLast hne).symm
  rw [hsplit] at hperm; have := hperm.trans (List.perm_append_comm (l₁ := s.xs.dropLast) (l₂ := [x])); exact (List.perm_cons x).1 this
theorem AbsS.rem {s : Ps} {L L' : List It} (h : AbsS s L) (hi : i < s.xs.length) (hL : L.Perm (at' s i :: L')) (hs : MP' L') : remV s i = at' s i /\ AbsS (remS s i) L' := by
 have hn : s.xs.length = (s.xs.length - 1) + 1 := ω
 by_cases h1 : s.xs.length - 1 = i
 ·have e : remD s i = s := by rw [remD, if_pos h1]
  refine ⟨by rw [remV, e, h1], ?_⟩; rw [remS, e]; exact R5' h.pi h.map hn (fun c hc hcn => h.heap c hc ω) (by rw [h1]) (hL.symm.trans h.perm) hs
 ·have hlast : s.xs.length - 1 < s.xs.length := ω
  have hsl := B4' s i (s.xs.length - 1)
  have hf : at' (AE' s i (s.xs.length - 1)) = BU' (at' s) i (s.xs.length - 1) := funext fun k => DV' s _ _ k hi hlast
  have hhole : OV' (at' (AE' s i (s.xs.length - 1))) (s.xs.length - 1) i := by
   rw [hf]
   refine ⟨fun c hc hcn hci hpi => ?_, fun c hc hcn hp h0 => ?_⟩
   ·rw [BU', if_neg ω, if_neg hpi, BU', if_neg ω, if_neg hci]; exact h.heap c hc ω
   ·rw [BU', if_neg ω, if_neg ω, BU', if_neg ω, if_neg ω]; have a1 := h.heap i h0 hi; have a2 := h.heap c hc ω; rw [hp] at a2; exact HS' a1 a2
  obtain ⟨q1, q2, q3, q4⟩ := WT' (s.xs.length - 1) (AE' s i (s.xs.length - 1)) i ω ω hhole
  have hend : at' (AE' s i (s.xs.length - 1)) (s.xs.length - 1) = at' s i := by rw [hf, BU', if_pos rfl]
  obtain ⟨k1, k2⟩ := GY' (s.xs.length - 1) _ (AE' s i (s.xs.length - 1)) i (Yd) (h.pi.swap i (s.xs.length - 1)); have hdm := TE' (s.xs.length - 1) _ (AE' s i (s.xs.length - 1)) i (Yd) ω (h.map.swap hi hlast); have hpd : (AI' (AE' s i (s.xs.length - 1)) i (s.xs.length - 1)).1.xs.Perm s.xs := q3.trans (G7' s _ _ hi hlast)
  by_cases h2 : i < (AI' (AE' s i (s.xs.length - 1)) i (s.xs.length - 1)).2
  ·have e : remD s i = (AI' (AE' s i (s.xs.length - 1)) i (s.xs.length - 1)).1 := by rw [remD, if_neg h1, if_pos h2]
   have hl : (remD s i).xs.length = s.xs.length := by rw [e, k2, hsl]
   have hv : at' (remD s i) (s.xs.length - 1) = at' s i := by rw [e, q4 _ (Yd), hend]
   refine ⟨by rw [remV, hl]; exact hv, ?_⟩; rw [remS]; refine R5' (n := s.xs.length - 1) (by rw [e]; exact k1) (by rw [e]; exact hdm) (by rw [hl]; exact hn) (by rw [e]; exact q1 h2) hv ?_ hs; rw [e]; exact (hL.symm.trans h.perm).trans hpd.symm
  ·obtain ⟨e0, hup⟩ := q2 h2
   have e : remD s i = upS (AI' (AE' s i (s.xs.length - 1)) i (s.xs.length - 1)).1 i := by rw [remD, if_neg h1, if_neg h2]
   rw [e0] at k1 k2 hdm hpd; obtain ⟨u1, u2, u3⟩ := YJ' (s.xs.length - 1) i (AE' s i (s.xs.length - 1)) ω ω hup; obtain ⟨v1, v2⟩ := L8' (AE' s i (s.xs.length - 1)) i k1
   have hl : (remD s i).xs.length = s.xs.length := by rw [e, e0, v2, hsl]
   have hv : at' (remD s i) (s.xs.length - 1) = at' s i := by rw [e, e0, u3 _ (Yd), hend]
   refine ⟨by rw [remV, hl]; exact hv, ?_⟩; rw [remS]; refine R5' (n := s.xs.length - 1) (by rw [e, e0]; exact v1) (by rw [e, e0]; exact bB' _ _ ω hdm) (by rw [hl]; exact hn) (by rw [e, e0]; exact u1) hv ?_ hs; rw [e, e0]; exact (hL.symm.trans h.perm).trans (u2.trans hpd).symm
noncomputable section
def QC' (s : Ps) : List AV -> Option (AP AV) := fun args => match args with
 | [.iface t (.ptr i 0), .v (.int .i64 j)] => some (.need (t = 96 /\ PI s /\ 0 <= j /\ j.toNat < s.xs.length) (.read i fun o => match o with
  | .cells [.slice r _ _ _ _, .map m] _ => useC (MC' i r m) [hI, iv j] args (pL s) (.leaf .ret [itF (remV s j.toNat)] [(0, pO (remS s j.toNat))])
  | _ => .fail "rem"))
 | _ => none
def fV' (s : Ps) (k : Int) : AY' := AJ' [(CU', 1, 6, hv (.tuple [iv (C2' k s.m), .v (.bool (AK' k s.m).isSome)]))]
def WV' : AY' := AJ' [(CU', 1, 6, hv (.tuple [iv 0, .lit false]))]
abbrev k45' (q0 : Ps) (q1 : Int) (q2 : HP) : Cnd := ((p' (findKey Try.prog (env0 [(66,QC' q0)] (fV' q0 q1) [] q2) 3 (z' q1) (mE iv q0.m) 0 = AP.ret (AO' (z' q1) (mE iv q0.m) 0))).a ((p' (B7' (AO' (z' q1) (mE iv q0.m) 0) (vi' I' (o' 0)) = v' (vi' I' (B7' (AO' (z' q1) (mE iv q0.m) 0) (vi' I' (o' 0))).intOf))).a (f' (Wk (AV.tuple [v' (vi' I' (B7' (AO' (z' q1) (mE iv q0.m) 0) (vi' I' (o' 0))).intOf),v' (vb' (AO' (z' q1) (mE iv q0.m) 0).isSome)]) (AV.tuple [z' (C2' q1 q0.m),v' (vb' (AK' q1 q0.m).isSome)])))))
theorem VY' (s : Ps) (k : Int) (F : HP) : oRun [(RK', QC' s)] (fV' s k) [] CU' [.ptr 0 0, iv k] (pL s) [0, 1001, 1002] F = VT.ite (!(AK' k s.m).isSome) (VT.leaf (AV.tuple [AV.agg [i' 0,i' 0,i' 0],b' false]) [some (ce' [AV.slice 1001 0 s.xs.length 3 (Cp.lo (s.xs.length + s.g.length)),AV.map 1002] 170),some (ce' (rowV enc (s.xs ++ s.g)) 142),some (AO.map (mE iv s.m) s.ck)] 1101 (k6'.a ((k45' s k F).a (h12' (k44'.a k1'))))) (VT.leaf (AV.tuple [AV.agg [v' (vi' I' (remV s (C2' k s.m).toNat).a),v' (vi' I' (remV s (C2' k s.m).toNat).b),v' (vi' I' (remV s (C2' k s.m).toNat).c)],b' true]) [some (AO.own (Md.pile (remS s (C2' k s.m).toNat)) (pH (remS s (C2' k s.m).toNat))),none,none] 1102 (k6'.a ((k45' s k F).a (((p' (96 = 96 /\ PI s /\ o' 0 <= C2' k s.m /\ (C2' k s.m).toNat < s.xs.length)).a ((vw' [AV.iface 96 (pt' 0 0),z' (C2' k s.m)]).a ((ow' (ce' [AV.slice 1001 0 s.xs.length 3 (Cp.lo (s.xs.length + s.g.length)),AV.map 1002] 170)).a ((p' (OW (ce' (rowV enc (s.xs ++ s.g)) 142) (ce' (AV.rens (MC' 0 1001 1002) (rowV enc (s.xs ++ s.g))) 142))).a (f' (OW (AO.map (mE iv s.m) s.ck) (AO.map (renE (MC' 0 1001 1002) (mE iv s.m)) s.ck))))))).a (k6'.a ((ee' [v' (vi' I' (remV s (C2' k s.m).toNat).a),v' (vi' I' (remV s (C2' k s.m).toNat).b),v' (vi' I' (remV s (C2' k s.m).toNat).c)]).a (h12' ((p' ([v' (vi' I' (remV s (C2' k s.m).toNat).a),v' (vi' I' (remV s (C2' k s.m).toNat).b),v' (vi' I' (remV s (C2' k s.m).toNat).c)] = [v' (vi' I' (remV s (C2' k s.m).toNat).a),v' (vi' I' (remV s (C2' k s.m).toNat).b),v' (vi' I' (remV s (C2' k s.m).toNat).c)])).a k1')))))))) := χ
theorem TU' (k : Int) (F : HP) : oRun [] WV' [] CU' [.ptr 0 0, iv k] pL0 [0, 1002] F = VT.ite true (VT.leaf (AV.tuple [AV.agg [i' 0,i' 0,i' 0],b' false]) [some (ce' [e',AV.map 1002] 170),some (AO.map [] 0)] 1101 (k6'.a (((p' (findKey Try.prog (env0 [] WV' [] F) 3 (z' k) [] 0 = AP.ret none)).a ((p' (i' 0 = i' 0)).a (f' (Wk (AV.tuple [i' 0,b' false]) (AV.tuple [i' 0,g']))))).a (h12' (k44'.a k1'))))) (VT.ite true (VT.bad "a number below nought") (VT.bad "a number below nought")) := χ
end
theorem XL' (s : Ps) (F : HP) : C1OK Θ F RK' (QC' s) := by
 intro st W0 N h w args vargs v h' n n' lg lg' c p hp he hc r ha hf; unfold QC' at hp; split at hp
 ·rename_i t i j; cases hp; obtain ⟨c0, he0, rfl⟩ := A9' he; obtain ⟨⟨rfl, hP, h0, hl⟩, hc0⟩ := (Cnd.and_iff _ _).1 hc; obtain ⟨j, rfl⟩ := Int.eq_ofNat_of_zero_le h0; obtain ⟨o, ho, he1⟩ := B1' he0; split at he1
  ·exact DT' B6' (Tri.pre (J0' s (vs := [hI, iv (o' j)]) ⟨rfl, Ye, Ye⟩) (aB' s j hP hl)) rfl (RV' (s := s) (A := [hI, iv (o' j)]) (v := itF (remV s j)) (o := pO (remS s j)) ⟨rfl, Ye, Ye⟩ ⟨⟨Ye, Ye, Ye, Ye⟩, Ye⟩ trivial) he1 hc0 r ha hf
  ·exact (A1' he1).elim
 ·cases hp
def N6' (s : Ps) (k : Int) : It := if isIn k s = true then remV s (C2' k s.m).toNat else It.zero
def N7' (s : Ps) (k : Int) : Ps := if isIn k s = true then remS s (C2' k s.m).toNat else s
theorem WE' (s : Ps) (k : Int) (hP : PI s) (hM : JQ' s) : Tri Θ default CU' [.ptr 0 0, iv k] [(0, pO s)] (.tuple [itA (N6' s k), .v (.bool (isIn k s))]) [(0, pO (N7' s k))] := by
 refine CH' (AR' (con := [(RK', QC' s)]) (hints := fV' s k) (lc := []) [0, 1001, 1002] rfl (N0' (XL' s)) noL fun F => ?_); rw [VY']; have e1 := T7' k s.m; have e2 := KM' (ev := iv) k s.m
 have e3 : Wk (AV.tuple [v' (vi' I' (B7' (AO' (.v (.int .i64 k)) (mE iv s.m) 0) (.int .i64 (o' 0))).intOf), v' (vb' (AO' (v' (vi' I' k)) (mE iv s.m) 0).isSome)]) (AV.tuple [v' (vi' I' (C2' k s.m)), v' (vb' (AK' k s.m).isSome)]) := by
  refine Wk.of_eq ?_; rw [e1, e2]; rfl
 refine ⟨fun h1 => ⟨?_, ?_⟩, fun h1 => ⟨?_, ?_⟩⟩
 ·exact Cq4'
 ·have hi : isIn k s = false := by have h1' : (!isIn k s) = true := h1; simpa using h1'
  have hn : ¬ isIn k s = true := by rw [hi]; exact Bool.false_ne_true
  have e4 : N6' s k = It.zero := if_neg hn; have e5 : N7' s k = s := if_neg hn; rw [e4, e5, hi]; exact CK' s [(1001, 1001), (1002, 1002)] χ χ (Yb) ⟨⟨⟨Ye, Ye, Ye, Ye⟩, Ye, Ye⟩, Ye⟩ (CI' s rfl rfl rfl rfl rfl rfl)
 ·have hi : isIn k s = true := by have h1' : (!isIn k s) = false := h1; simpa using h1'
  obtain ⟨v, hv⟩ := Option.isSome_iff_exists.1 (show (AK' k s.m).isSome = true from hi); obtain ⟨i, hil, _, rfl⟩ := (hM k v).1 hv
  have hd : C2' k s.m = (i : Int) := by rw [C2', hv]; rfl
  have h0 : 0 <= C2' k s.m := by rw [hd]; exact Int.natCast_nonneg _
  have hl : (C2' k s.m).toNat < s.xs.length := by rw [hd]; exact hil
  simp only [ch']; and_intros; all_goals first | exact Ye | exact AS' intT _ _ _ | exact e3 | exact hP | exact h0 | exact hl | exact Kq24'
 ·have hi : isIn k s = true := by have h1' : (!isIn k s) = false := h1; simpa using h1'
  have e4 : N6' s k = remV s (C2' k s.m).toNat := if_pos hi; have e5 : N7' s k = remS s (C2' k s.m).toNat := if_pos hi; rw [e4, e5, hi]; exact CX' (Yb) ⟨_, rfl, Yc⟩
theorem TZ' (k : Int) : Tri Θ default CU' [.ptr 0 0, iv k] [(0, pO0)] (.tuple [itA It.zero, .v (.bool false)]) [(0, pO0)] := by
 refine DL' (AR' (con := []) (hints := WV') (lc := []) [0, 1002] rfl noC noL fun F => ?_); rw [TU']
 have e3 : Wk (AV.tuple [v' (vi' I' (o' 0)), v' (vb' false)]) (AV.tuple [v' (vi' I' (o' 0)), AV.lit false]) := by
  intro N y hy; simp only [VR, VRs] at hy ⊢; exact hy
 refine ⟨fun _ => ⟨?_, GI' [(1002, 1002)] χ χ (Yb) ⟨⟨⟨Ye, Ye, Ye, Ye⟩, Ye, Ye⟩, Ye⟩ ⟨⟨_, rfl, Yc⟩, ⟨_, rfl, Yc⟩, Ye⟩⟩, fun h => by cases h⟩
 simp only [ch']; and_intros; all_goals first | exact Ye | exact e3 | rfl
def remK (k : Int) (L : List It) : List It := L.filter fun y => !(y.b == k)
def JI' (k : Int) (L : List It) : It := (L.find? fun y => y.b == k).getD It.zero
theorem PC' {k : Int} : ∀ {L : List It} {x : It}, (∀ y ∈ L, ∀ z ∈ L, y.b = z.b -> y = z) -> L.Nodup -> x ∈ L -> x.b = k -> L.Perm (x :: remK k L)
 | [], x, _, _, hx, _ => by cases hx
 | y :: l, x, hu, hd, hx, hk => by
  obtain ⟨hd1, hd2⟩ := List.nodup_cons.1 hd
  have hu' : ∀ a ∈ l, ∀ b ∈ l, a.b = b.b -> a = b := fun a ha b hb => hu a (List.mem_cons_of_mem _ ha) b (List.mem_cons_of_mem _ hb)
  rcases List.mem_cons.1 hx with rfl | hx'
  ·have e : remK k (x :: l) = l := by
    rw [remK, List.filter_cons]
    have h1 : (!(x.b == k)) = false := by simp [hk]
    rw [h1, if_neg Bool.false_ne_true, List.filter_eq_self]; intro z hz
    have : z.b ≠ k := fun ez => hd1 (by rw [hu x ms' z (List.mem_cons_of_mem _ hz) (hk.trans ez.symm)]; exact hz)
    simpa using this
   rw [e]
  ·have hy : y.b ≠ k := fun ey => hd1 (by rw [hu y ms' x hx (ey.trans hk.symm)]; exact hx')
   have e : remK k (y :: l) = y :: remK k l := by
    rw [remK, List.filter_cons]
    have h1 : (!(y.b == k)) = true := by simpa using hy
    rw [if_pos h1]; rfl
   rw [e]; exact ((PC' hu' hd2 hx' hk).cons y).trans (List.Perm.swap x y _)
theorem P4' {L : List It} (h : MP' L) : L.Nodup := h.imp fun {a b} hab e => by subst e; rw [DA'] at hab; cases hab
theorem AbsS.uniq {s : Ps} {L : List It} (h : AbsS s L) : ∀ y ∈ L, ∀ z ∈ L, y.b = z.b -> y = z := by
 intro y hy z hz e; obtain ⟨i, hi, rfl⟩ := KH'.1 (h.perm.mem_iff.1 hy); obtain ⟨j, hj, rfl⟩ := KH'.1 (h.perm.mem_iff.1 hz); rw [h.map.inj hi hj e]
theorem aK' {L : List It} (hu : ∀ y ∈ L, ∀ z ∈ L, y.b = z.b -> y = z) {x : It} (hx : x ∈ L) {k : Int} (hk : x.b = k) : JI' k L = x := by
 rw [JI']
 cases hf : L.find? (fun y => y.b == k) with
 | none =>
  have := List.find?_eq_none.1 hf x hx; simp [hk] at this
 | some z =>
  have h1 := List.find?_some hf; have h2 := List.mem_of_find?_eq_some hf; exact hu z h2 x hx (by rw [hk]; simpa using h1)
theorem AbsS.take {s : Ps} {L : List It} (h : AbsS s L) (k : Int) : N6' s k = JI' k L /\ AbsS (N7' s k) (remK k L) := by
 cases hi : Rk.isIn k s with
 | false =>
  have hn : ¬ Rk.isIn k s = true := by rw [hi]; exact Bool.false_ne_true
  have e4 : N6' s k = It.zero := if_neg hn; have e5 : N7' s k = s := if_neg hn; rw [h.isIn k, List.any_eq_false] at hi
  have e6 : JI' k L = It.zero := by
   rw [JI', List.find?_eq_none.2 fun x hx => hi x hx]; rfl
  have e7 : remK k L = L := List.filter_eq_self.2 fun x hx => by simpa using hi x hx
  rw [e4, e5, e6, e7]; exact ⟨rfl, h⟩
 | true =>
  have e4 : N6' s k = remV s (C2' k s.m).toNat := if_pos hi; have e5 : N7' s k = remS s (C2' k s.m).toNat := if_pos hi; obtain ⟨v, hv⟩ := Option.isSome_iff_exists.1 (show (AK' k s.m).isSome = true from hi); obtain ⟨i, hil, hb, rfl⟩ := (h.map k v).1 hv
  have hd : (C2' k s.m).toNat = i := by rw [C2', hv]; rfl
  have hmem : at' s i ∈ L := h.perm.mem_iff.2 (KH'.2 ⟨i, hil, rfl⟩); have hr := h.rem hil (PC' h.uniq (P4' h.sorted) hmem hb) (h.sorted.filter _); rw [e4, e5, hd, aK' h.uniq hmem hb]; exact hr
theorem Atake_tri (L : List It) (k : Int) : Tri Θ default CU' [.ptr 0 0, iv k] [(0, lO L)] (.tuple [itA (JI' k L), .v (.bool (CP' k L))]) [(0, lO (remK k L))] := by
 refine GD' ⟨rfl, Ye, Ye⟩ (fun s hs => ?_) (fun e => ?_)
 ·have ht := WE' s k hs.pi hs.map; have e1 : isIn k s = CP' k L := hs.isIn k; rw [e1, (hs.take k).1] at ht; exact Tri.post ht (DU' δ (GT' (hs.take k).2))
 ·subst e; exact Tri.post (TZ' k) (DU' δ JA')
end Go.Proofs.Ytjjjchmkonnpfaa.Rk
namespace Go.Proofs.Ytjjjchmkonnpfaa.Qb
open Go Go.RowKit Eng Kit Tree
open Rk (lO itA CP' putL)
open Int renaming ofNat -> o'
open AO renaming cells -> ce'
open AV renaming v -> v'
open AV renaming ptr -> pt'
open Go.Value renaming slice -> sl'
noncomputable section
structure Cf where
 t1 : Int
 t2 : Int
 ml : Int
 mp : Int
 a1 : Δ
 a2 : Δ
 a3 : Δ
 b1 : Bool
 b2 : Bool
 b3 : Bool
structure Qs where
 cf : Cf
 m : IMap Kc
 ck : Nat
 L : List It
 o : IMap Int
 ok : Nat
 la : Int
abbrev tQu : TypeId := 2 * 64
def cfA (c : Cf) : List AV := [iv c.t1, iv c.t2, iv c.ml, iv c.mp, sv c.a1, sv c.a2, sv c.a3, bv c.b1, bv c.b2, bv c.b3]
def qC (c : Cf) (la : Int) : AO := .cells [iv c.t1, iv c.t2, iv c.ml, iv c.mp, sv c.a1, sv c.a2, sv c.a3, bv c.b1, bv c.b2, bv c.b3, .map 1001, .ptr 1003 0, .map 1004, iv la, nilS] tQu
def uQ (s : Qs) (P : Mem -> Prop) : LH := [(0, qC s.cf s.la), (1001, .map (mE aggK s.m) s.ck), (1002, .any (frz P)), (1003, lO s.L), (1004, .map (mE iv s.o) s.ok)]
def uB (s : Qs) (P : Mem -> Prop) (c : Kc) : LH := [(0, qC s.cf s.la), (1001, .map (mE aggK s.m) s.ck), (1002, .any (frz P)), (1003, lO s.L), (1004, .map (mE iv s.o) s.ok), (1010, .cells (vmap c.cells) tKc)]
abbrev CB' : Nat := 12
abbrev ND' : Nat := 31
abbrev fPop : Nat := 14
abbrev BL' : Nat := 21
abbrev LY' : Nat := 38
abbrev EI' : Nat := 17
abbrev EM' : Nat := 20
abbrev WZ' : Nat := 7
def cCd (c : Kc) (FV TV : AV) (OF OT : AO) : List AV -> Option (AP AV) := mkC (fun _ => .ret ()) (fun _ => True) (fun _ k => k) (fun _ => [aggK c]) (fun _ => []) (fun _ => .leaf .ret [aggN c FV TV] [(1007, OF), (1008, OT)])
def aggU (c : Kc) : AV := aggN c .un .un
def cCr (c : Kc) (P : Mem -> Prop) : List AV -> Option (AP AV) := mkC (fun _ => .ret ()) (fun _ => True) (fun _ k => match k with | 0 => 1002 | k => k) (fun _ => [aggK c]) (fun _ => [(0, .any (frz P))]) (fun _ => .leaf .ret [aggU c] [(0, .any (frz P))])
def gP1 : List AV -> AP Nat := fun args => match args with
 | .ptr i _ :: _ => .ret i
 | _ => .fail "a pointer"
def nmP (i : Nat) : Nat -> Nat := fun k => match k with | 0 => i | k => k
def M4' (L : List It) (x : It) : List AV -> Option (AP AV) := mkC gP1 (fun _ => True) nmP (fun _ => [.ptr 0 0, itA x]) (fun _ => [(0, lO L)]) (fun _ => .leaf .ret [.v (.bool (!CP' x.b L))] [(0, lO (putL L x))])
def KT' (L : List It) : List AV -> Option (AP AV) := mkC gP1 (fun _ => True) nmP (fun _ => [.ptr 0 0]) (fun _ => [(0, lO L)]) (fun _ => .leaf .ret [.tuple [itA (L.headD Rk.It.zero), .v (.bool (!L.isEmpty))]] [(0, lO L.tail)])
def O9' (L : List It) : List AV -> Option (AP AV) := mkC gP1 (fun _ => True) nmP (fun _ => [.ptr 0 0]) (fun _ => [(0, lO L)]) (fun _ => .leaf .ret [iv (o' L.length)] [(0, lO L)])
def cLNew : List AV -> Option (AP AV) := mkC (fun _ => .ret ()) (fun _ => True) (fun _ k => k) (fun _ => []) (fun _ => []) (fun _ => .leaf .ret [.ptr 1000 0] [(1000, lO [])])
def kQ : List Nat := [0, 1001, 1002, 1003, 1004, 1010, 1100, 1101, 1102, 1103, 1104, 1105, 1106, 1107]
abbrev k46' : Cnd := ((p' True).a (f' (VW [] [])))
abbrev k47' (q0 : Cf) : Cnd := (ee' [z' q0.t1,z' q0.t2,z' q0.ml,z' q0.mp,s' q0.a1,s' q0.a2,s' q0.a3,b' q0.b1,b' q0.b2,b' q0.b3])
theorem R6' (c : Cf) (F : HP) : wRun [(26, cLNew)] AF' [] default WZ' [.agg (cfA c)] [] [1100, 1101, 1102, 1103, 1104] F = VT.leaf (pt' 1104 0) [some (ce' [z' c.t1,z' c.t2,z' c.ml,z' c.mp,s' c.a1,s' c.a2,s' c.a3,b' c.b1,b' c.b2,b' c.b3] 54),some (AO.map [] 0),some (AO.own (Md.line []) (Rk.lH [])),some (AO.map [] 0),some (ce' [z' c.t1,z' c.t2,z' c.ml,z' c.mp,s' c.a1,s' c.a2,s' c.a3,b' c.b1,b' c.b2,b' c.b3,AV.map 1101,pt' 1102 0,AV.map 1103,i' 0,e'] 128)] 1105 ((k47' c).a (k46'.a k1')) := χ
theorem eG' (W : World) (s : Qs) (P : Mem -> Prop) (c : Kc) (F : HP) : B0' [] AF' [] W CB' (fst (KU' CB')) (tms 0 18 [(0, .ptr 0 0), (1, aggK c)]) (uQ s P) kQ [0, 3, 4] F = VT.leaf (AX.normal,[pt' 0 0,pt' 1100 0,i' 0],18) [some (ce' [z' s.cf.t1,z' s.cf.t2,z' s.cf.ml,z' s.cf.mp,s' s.cf.a1,s' s.cf.a2,s' s.cf.a3,b' s.cf.b1,b' s.cf.b2,b' s.cf.b3,AV.map 1001,pt' 1003 0,AV.map 1004,z' s.la,e'] 128),some (AO.map (mE aggK s.m) s.ck),some (AO.any (frz P)),some (AO.own (Md.line s.L) (Rk.lH s.L)),some (AO.map (mE iv s.o) s.ok),none,some (ce' [z' c.sq,z' c.gh,z' c.bo,z' c.si,s' c.ex,s' c.ke,z' c.fl,s' c.ct,s' c.ce,v' (sl' c.ha (List.length c.f) c.hc),z' c.dm,z' c.pr,s' c.s1,s' c.s2,s' c.s3,s' c.s4,z' c.ts,s' c.s5,s' c.s6,s' c.s7,z' c.xp,z' c.pi,v' (sl' c.ta c.tr.length c.tc),b' c.du,b' c.re] 82),none,none,none,none,none,none,none] 1101 k1' := χ
abbrev k48' (q0 : Kc) : Cnd := ((p' True).a (f' (VW [AV.agg [z' q0.sq,z' q0.gh,z' q0.bo,z' q0.si,s' q0.ex,s' q0.ke,z' q0.fl,s' q0.ct,s' q0.ce,v' (sl' q0.ha (List.length q0.f) q0.hc),z' q0.dm,z' q0.pr,s' q0.s1,s' q0.s2,s' q0.s3,s' q0.s4,z' q0.ts,s' q0.s5,s' q0.s6,s' q0.s7,z' q0.xp,z' q0.pi,v' (sl' q0.ta q0.tr.length q0.tc),b' q0.du,b' q0.re]] [AV.agg [z' q0.sq,z' q0.gh,z' q0.bo,z' q0.si,s' q0.ex,s' q0.ke,z' q0.fl,s' q0.ct,s' q0.ce,v' (sl' q0.ha (List.length q0.f) q0.hc),z' q0.dm,z' q0.pr,s' q0.s1,s' q0.s2,s' q0.s3,s' q0.s4,z' q0.ts,s' q0.s5,s' q0.s6,s' q0.s7,z' q0.xp,z' q0.pi,v' (sl' q0.ta q0.tr.length q0.tc),b' q0.du,b' q0.re]])))
abbrev k49' (q0 : Kc) : Cnd := (ee' [z' q0.sq,z' q0.gh,z' q0.bo,z' q0.si,s' q0.ex,s' q0.ke,z' q0.fl,s' q0.ct,s' q0.ce,v' (sl' q0.ha (List.length q0.f) q0.hc),z' q0.dm,z' q0.pr,s' q0.s1,s' q0.s2,s' q0.s3,s' q0.s4,z' q0.ts,s' q0.s5,s' q0.s6,s' q0.s7,z' q0.xp,z' q0.pi,v' (sl' q0.ta q0.tr.length q0.tc),b' q0.du,b' q0.re])
theorem VU' (W : World) (s : Qs) (P : Mem -> Prop) (c : Kc) (OF OT : AO) (F : HP) : B0' [(fCd, cCd c nilS .mt OF OT)] AF' [] W CB' (fst (snd (KU' CB'))) (tms 0 18 [(0, .ptr 0 0), (3, .ptr 1010 0), (4, iv 0)]) (uB s P c) kQ [0, 3, 4] F = VT.leaf (AX.normal,[pt' 0 0,pt' 1010 0,i' 0],18) [some (ce' [z' s.cf.t1,z' s.cf.t2,z' s.cf.ml,z' s.cf.mp,s' s.cf.a1,s' s.cf.a2,s' s.cf.a3,b' s.cf.b1,b' s.cf.b2,b' s.cf.b3,AV.map 1001,pt' 1003 0,AV.map 1004,z' s.la,e'] 128),some (AO.map (mE aggK s.m) s.ck),some (AO.any (frz P)),some (AO.own (Md.line s.L) (Rk.lH s.L)),some (AO.map (mE iv s.o) s.ok),some (ce' [z' c.sq,z' c.gh,z' c.bo,z' c.si,s' c.ex,s' c.ke,z' c.fl,s' c.ct,s' c.ce,e',z' c.dm,z' c.pr,s' c.s1,s' c.s2,s' c.s3,s' c.s4,z' c.ts,s' c.s5,s' c.s6,s' c.s7,z' c.xp,z' c.pi,AV.mt,b' c.du,b' c.re] 82),some (AO.ren (sgN (fun k => k) [1007,1008] 1100) OF),some (AO.ren (sgN (fun k => k) [1007,1008] 1100) OT),none,none,none,none,none,none] 1102 ((k49' c).a ((k48' c).a (k6'.a k1'))) := χ
theorem VV' (W : World) (s : Qs) (P : Mem -> Prop) (c : Kc) (OF OT : AO) (F : HP) : B0' [(fCd, cCd c nilS (sS 1008 c.tr.length) OF OT)] AF' [] W CB' (fst (snd (KU' CB'))) (tms 0 18 [(0, .ptr 0 0), (3, .ptr 1010 0), (4, iv 0)]) (uB s P c) kQ [0, 3, 4] F = VT.leaf (AX.normal,[pt' 0 0,pt' 1010 0,i' 0],18) [some (ce' [z' s.cf.t1,z' s.cf.t2,z' s.cf.ml,z' s.cf.mp,s' s.cf.a1,s' s.cf.a2,s' s.cf.a3,b' s.cf.b1,b' s.cf.b2,b' s.cf.b3,AV.map 1001,pt' 1003 0,AV.map 1004,z' s.la,e'] 128),some (AO.map (mE aggK s.m) s.ck),some (AO.any (frz P)),some (AO.own (Md.line s.L) (Rk.lH s.L)),some (AO.map (mE iv s.o) s.ok),some (ce' [z' c.sq,z' c.gh,z' c.bo,z' c.si,s' c.ex,s' c.ke,z' c.fl,s' c.ct,s' c.ce,e',z' c.dm,z' c.pr,s' c.s1,s' c.s2,s' c.s3,s' c.s4,z' c.ts,s' c.s5,s' c.s6,s' c.s7,z' c.xp,z' c.pi,AV.slice 1101 0 c.tr.length 1 (Cp.lo c.tr.length),b' c.du,b' c.re] 82),some (AO.ren (sgN (fun k => k) [1007,1008] 1100) OF),some (AO.ren (sgN (fun k => k) [1007,1008] 1100) OT),none,none,none,none,none,none] 1102 ((k49' c).a ((k48' c).a (k6'.a k1'))) := χ
theorem VW' (W : World) (s : Qs) (P : Mem -> Prop) (c : Kc) (OF OT : AO) (F : HP) : B0' [(fCd, cCd c (sF 1007 c.f.length) .mt OF OT)] AF' [] W CB' (fst (snd (KU' CB'))) (tms 0 18 [(0, .ptr 0 0), (3, .ptr 1010 0), (4, iv 0)]) (uB s P c) kQ [0, 3, 4] F = VT.leaf (AX.normal,[pt' 0 0,pt' 1010 0,i' 0],18) [some (ce' [z' s.cf.t1,z' s.cf.t2,z' s.cf.ml,z' s.cf.mp,s' s.cf.a1,s' s.cf.a2,s' s.cf.a3,b' s.cf.b1,b' s.cf.b2,b' s.cf.b3,AV.map 1001,pt' 1003 0,AV.map 1004,z' s.la,e'] 128),some (AO.map (mE aggK s.m) s.ck),some (AO.any (frz P)),some (AO.own (Md.line s.L) (Rk.lH s.L)),some (AO.map (mE iv s.o) s.ok),some (ce' [z' c.sq,z' c.gh,z' c.bo,z' c.si,s' c.ex,s' c.ke,z' c.fl,s' c.ct,s' c.ce,AV.slice 1100 0 (List.length c.f) 6 (Cp.lo (List.length c.f)),z' c.dm,z' c.pr,s' c.s1,s' c.s2,s' c.s3,s' c.s4,z' c.ts,s' c.s5,s' c.s6,s' c.s7,z' c.xp,z' c.pi,AV.mt,b' c.du,b' c.re] 82),some (AO.ren (sgN (fun k => k) [1007,1008] 1100) OF),some (AO.ren (sgN (fun k => k) [1007,1008] 1100) OT),none,none,none,none,none,none] 1102 ((k49' c).a ((k48' c).a (k6'.a k1'))) := χ
theorem VX' (W : World) (s : Qs) (P : Mem -> Prop) (c : Kc) (OF OT : AO) (F : HP) : B0' [(fCd, cCd c (sF 1007 c.f.length) (sS 1008 c.tr.length) OF OT)] AF' [] W CB' (fst (snd (KU' CB'))) (tms 0 18 [(0, .ptr 0 0), (3, .ptr 1010 0), (4, iv 0)]) (uB s P c) kQ [0, 3, 4] F = VT.leaf (AX.normal,[pt' 0 0,pt' 1010 0,i' 0],18) [some (ce' [z' s.cf.t1,z' s.cf.t2,z' s.cf.ml,z' s.cf.mp,s' s.cf.a1,s' s.cf.a2,s' s.cf.a3,b' s.cf.b1,b' s.cf.b2,b' s.cf.b3,AV.map 1001,pt' 1003 0,AV.map 1004,z' s.la,e'] 128),some (AO.map (mE aggK s.m) s.ck),some (AO.any (frz P)),some (AO.own (Md.line s.L) (Rk.lH s.L)),some (AO.map (mE iv s.o) s.ok),some (ce' [z' c.sq,z' c.gh,z' c.bo,z' c.si,s' c.ex,s' c.ke,z' c.fl,s' c.ct,s' c.ce,AV.slice 1100 0 (List.length c.f) 6 (Cp.lo (List.length c.f)),z' c.dm,z' c.pr,s' c.s1,s' c.s2,s' c.s3,s' c.s4,z' c.ts,s' c.s5,s' c.s6,s' c.s7,z' c.xp,z' c.pi,AV.slice 1101 0 c.tr.length 1 (Cp.lo c.tr.length),b' c.du,b' c.re] 82),some (AO.ren (sgN (fun k => k) [1007,1008] 1100) OF),some (AO.ren (sgN (fun k => k) [1007,1008] 1100) OT),none,none,none,none,none,none] 1102 ((k49' c).a ((k48' c).a (k6'.a k1'))) := χ
def hSt (n rk : Int) : AY' := AJ' [(CB', 2, 4, hv (iv n)), (ND', 1, 10, hv (iv rk)), (ND', 4, 7, hv (iv n))]
theorem eF' (W : World) (s : Qs) (P : Mem -> Prop) (c : Kc) (n rk : Int) (F : HP) : B0' [(EN', M4' s.L ⟨rk, n, 0⟩)] (hSt n rk) [] W CB' (snd (snd (KU' CB'))) (tms 0 18 [(0, .ptr 0 0), (3, .ptr 1010 0), (4, iv 0)]) (uB s P c) kQ [0, 4] F = VT.leaf (AX.ret,[pt' 0 0,z' n],18) [some (ce' [z' s.cf.t1,z' s.cf.t2,z' s.cf.ml,z' s.cf.mp,s' s.cf.a1,s' s.cf.a2,s' s.cf.a3,b' s.cf.b1,b' s.cf.b2,b' s.cf.b3,AV.map 1001,pt' 1003 0,AV.map 1004,z' n,e'] 128),some (AO.map (setE (z' n) (AV.agg [z' n,z' c.gh,z' c.bo,z' c.si,s' c.ex,s' c.ke,z' c.fl,s' c.ct,s' c.ce,v' (sl' c.ha (List.length c.f) c.hc),z' c.dm,z' c.pr,s' c.s1,s' c.s2,s' c.s3,s' c.s4,z' c.ts,s' c.s5,s' c.s6,s' c.s7,z' c.xp,z' c.pi,v' (sl' c.ta c.tr.length c.tc),b' c.du,b' c.re]) (mE aggK s.m) s.ck) (EJ' (z' n) (mE aggK s.m) s.ck)),some (AO.any (frz P)),some (AO.own (Md.line (putL s.L (It.mk rk n (o' 0)))) (Rk.lH (putL s.L (It.mk rk n (o' 0))))),some (AO.map (mE iv s.o) s.ok),some (ce' [z' n,z' c.gh,z' c.bo,z' c.si,s' c.ex,s' c.ke,z' c.fl,s' c.ct,s' c.ce,v' (sl' c.ha (List.length c.f) c.hc),z' c.dm,z' c.pr,s' c.s1,s' c.s2,s' c.s3,s' c.s4,z' c.ts,s' c.s5,s' c.s6,s' c.s7,z' c.xp,z' c.pi,v' (sl' c.ta c.tr.length c.tc),b' c.du,b' c.re] 82),some (ce' [z' n,z' c.gh,z' c.bo,z' c.si,s' c.ex,s' c.ke,z' c.fl,s' c.ct,s' c.ce,v' (sl' c.ha (List.length c.f) c.hc),z' c.dm,z' c.pr,s' c.s1,s' c.s2,s' c.s3,s' c.s4,z' c.ts,s' c.s5,s' c.s6,s' c.s7,z' c.xp,z' c.pi,v' (sl' c.ta c.tr.length c.tc),b' c.du,b' c.re] 82),none,none,none,none,none,none,none] 1101 ((ee' (z' s.la)).a ((f' (Wk (z' (IntKind.i64.wrap (s.la + o' 1))) (z' n))).a (k6'.a ((ee' [z' n,z' c.gh,z' c.bo,z' c.si,s' c.ex,s' c.ke,z' c.fl,s' c.ct,s' c.ce,v' (sl' c.ha (List.length c.f) c.hc),z' c.dm,z' c.pr,s' c.s1,s' c.s2,s' c.s3,s' c.s4,z' c.ts,s' c.s5,s' c.s6,s' c.s7,z' c.xp,z' c.pi,v' (sl' c.ta c.tr.length c.tc),b' c.du,b' c.re]).a (((ee' (z' c.pi)).a ((ee' (z' s.cf.mp)).a ((f' (Wk (z' (if (if (if s.cf.mp > o' 0 then s.cf.mp else o' 0) < c.pi then if s.cf.mp > o' 0 then s.cf.mp else o' 0 else c.pi) > o' 0 then if (if s.cf.mp > o' 0 then s.cf.mp else o' 0) < c.pi then if s.cf.mp > o' 0 then s.cf.mp else o' 0 else c.pi else o' 0)) (z' rk))).a ((fe' true).a ((ee' (z' n)).a ((ee' [z' n,z' c.gh,z' c.bo,z' c.si,s' c.ex,s' c.ke,z' c.fl,s' c.ct,s' c.ce,v' (sl' c.ha (List.length c.f) c.hc),z' c.dm,z' c.pr,s' c.s1,s' c.s2,s' c.s3,s' c.s4,z' c.ts,s' c.s5,s' c.s6,s' c.s7,z' c.xp,z' c.pi,v' (sl' c.ta c.tr.length c.tc),b' c.du,b' c.re]).a (((p' (findKey Try.prog (envW [(46,M4' s.L (It.mk rk n (o' 0)))] (hSt n rk) [] W F) 3 (z' n) (mE aggK s.m) 0 = AP.ret (AO' (z' n) (mE aggK s.m) 0))).a (f' (H7' (z' n) (mE aggK s.m)))).a ((fe' true).a ((ee' (z' n)).a (((Cnd.p True).a ((vw' [pt' 1003 0,AV.agg [z' rk,z' n,i' 0]]).a (f' (OW (AO.own (Md.line s.L) (Rk.lH s.L)) (AO.own (Md.line s.L) (Rk.lH s.L)))))).a ((ee' (z' s.la)).a ((ee' (z' n)).a ((f' (Wk (z' (if n > s.la then n else s.la)) (z' n))).a ((fe' true).a t')))))))))))))).a ((ee' (z' n)).a k1')))))) := χ
end
end Go.Proofs.Ytjjjchmkonnpfaa.Qb
namespace Go.Proofs.Ytjjjchmkonnpfaa.Rk
open Go Go.RowKit Eng Go.Sort Go.Lib Go.Shelf Kit
open AO renaming cells -> ce'
abbrev HK' : Nat := 49
abbrev fAhead : Nat := 50
set_option maxHeartbeats 2000000 in
theorem S5' (x y : It) (W : World) : Calls Θ fAhead #[.agg #[.int .i64 x.a, .int .i64 x.b, .int .i64 x.c], .agg #[.int .i64 y.a, .int .i64 y.b, .int .i64 y.c]] W fun e w' => e = .returned (.bool (ahead x y)) /\ ∃ q os', w' = grow (W.drewN q) os' := by
 go_enter Try.func50, Try.ntmps50
 go_wp2
 all_goals go_ret
 all_goals refine ⟨?_, 0, _, by rw [alloc_eq_grow, alloc_eq_grow, grow_grow]; rfl⟩
 all_goals simp_all [ahead]
 all_goals omega
def cmpI (x y : It) : Int := if ahead x y = true then -1 else 1
set_option maxHeartbeats 2000000 in
theorem O5' (x y : It) (W : World) : Calls Θ HK' #[.agg #[.int .i64 x.a, .int .i64 x.b, .int .i64 x.c], .agg #[.int .i64 y.a, .int .i64 y.b, .int .i64 y.c]] W fun e w' => e = .returned (.int .i64 (cmpI x y)) /\ ∃ q os', w' = grow (W.drewN q) os' := by
 have hcon := fun W' => S5' x y W'
 change ∀ W', Calls Θ 50 _ _ _ at hcon; unfold cmpI
 generalize ahead x y = r at hcon ⊢
 go_enter Try.func49, Try.ntmps49
 go_wp2_with (go_at_call 50; refine (hcon _).mono ?_; rintro e w' ⟨rfl, q, os', rfl⟩)
 all_goals go_ret
 all_goals refine ⟨?_, q, _, by rw [alloc_eq_grow, alloc_eq_grow, grow_grow]; exact grow_grow (W.drewN q) _ _⟩
 all_goals first | rfl | simp_all
instance : Inhabited It := ⟨It.zero⟩
theorem XA' : ltOf cmpI = ahead := by
 funext x y; unfold ltOf cmpI
 cases ahead x y <;> simp
theorem V5' : SWO (ltOf cmpI) := by
 rw [XA']
 refine ⟨fun x => ?_, fun x y z h1 h2 => ?_, fun x y z h1 h2 => ?_⟩
 ·simp [ahead]
 ·simp only [ahead, Bool.or_eq_true, Bool.and_eq_true, decide_eq_true_eq, beq_iff_eq] at *; omega
 ·rw [<- Bool.not_eq_true] at *; simp only [ahead, Bool.or_eq_true, Bool.and_eq_true, decide_eq_true_eq, beq_iff_eq] at *; omega
theorem gB' (blk off size : Nat) (w : World) : CmpLays Θ HK' #[] enc 3 cmpI blk off size w := fun _ _ _ _ x y => O5' x y _
abbrev I8' : Nat := 48
theorem TC' (d : Array It) (j : Nat) (hj : j < d.size * 3) : (d.toList.flatMap enc)[j]? = some ((flatK enc 3 d)[j]!) := by
 have h1 : j / 3 < d.toList.length := by rw [Array.length_toList]; omega
 have h2 := MZ' enc_length d.toList (j / 3) (j % 3) h1 ω
 have e : j / 3 * 3 + j % 3 = j := ω
 rw [e] at h2; rw [h2, get_flatK enc 3 d j hj]
 have h3 : d[j / 3]! = d.toList[j / 3] := by
  rw [getElem!_pos d (j / 3) (by simpa using h1)]; simp
 rw [h3]
 have hl : j % 3 < (enc d.toList[j / 3]).length := by rw [enc_length]; omega
 rw [List.getElem?_eq_getElem hl, getElem!_pos (enc d.toList[j / 3]) (j % 3) hl]
theorem aJ' (l : List It) : (l.flatMap enc).length = l.length * 3 := by
 have := BG' enc_length l
 rwa [rowV, D1'] at this
theorem V9' {l L : List It} {d' : Array It} (hp : l.Perm L) (hs : MP' L) (h1 : PermIn 0 l.toArray.size l.toArray d') (h2 : SortedIn (ltOf cmpI) 0 l.toArray.size d') : d'.toList = L := by
 obtain ⟨hz, _, hpm⟩ := h1
 have e1 : d'.extract 0 l.toArray.size = d' := by rw [<- hz]; simp
 have e2 : l.toArray.extract 0 l.toArray.size = l.toArray := by simp
 rw [e1, e2] at hpm; have hpL : d'.toList.Perm L := hpm.trans hp; refine List.Perm.eq_of_pairwise (le := nb) (fun a b ha hb h3 h4 => ?_) ?_ (hs.imp fun h => D3' h) hpL
 ·have ha' : a ∈ L := hpL.mem_iff.1 ha; obtain ⟨i, hi, rfl⟩ := List.mem_iff_getElem.1 ha'; obtain ⟨j, hj, rfl⟩ := List.mem_iff_getElem.1 hb; have hs2 := List.pairwise_iff_getElem.1 hs
  rcases Nat.lt_trichotomy i j with h | h | h
  ·have := hs2 i j hi hj h; rw [nb, this] at h4; cases h4
  ·subst h; rfl
  ·have := hs2 j i hj hi h; rw [nb, this] at h3; cases h3
 ·rw [List.pairwise_iff_getElem]; intro i j hi hj hij
  have hj' : j < d'.size := by simpa using hj
  have hi' : i < d'.size := by simpa using hi
  have := h2 i j (Nat.zero_le _) hij (by rw [<- hz]; exact hj'); rw [XA', getElem!_pos d' j hj', getElem!_pos d' i hi'] at this; simpa [nb] using this
def sF : AV := .v (.func (.func HK') #[] #[])
theorem YP' (l L : List It) (c : Cp) (h0 : 0 < l.length) (hb : l.length < 4611686018427387904) (hp : l.Perm L) (hs : MP' L) : Tri Θ default I8' [.slice 0 0 l.length 3 c, sF] [(0, .cells (rowV enc l) tIt)] (.tuple []) [(0, .cells (rowV enc L) tIt)] := by
 intro W0 F N w vargs _ hN r hv
 have hfo : ∀ o : AO, (AN' [(0, o)]).find 0 = some o := fun o => by
  rw [AG' χ, getO, if_pos rfl]
 have hfn : ∀ (o : AO) i, i ≠ 0 -> (AN' [(0, o)]).find i = none := fun o i hi => by
  rw [AG' χ, getO, if_neg hi]; rfl
 simp only [VRs, sF] at hv; obtain ⟨y1, r1, hy1, ⟨y2, r2, hy2, rfl, rfl⟩, hvl⟩ := hv
 obtain rfl : vargs = #[y1, y2] := by cases vargs; simp_all
 simp only [VR] at hy1 hy2; obtain ⟨p, x, cc, q1, rfl, q3, q4, q5, q6⟩ := hy1; subst hy2; obtain ⟨D, hO⟩ := r.obj (hfo _); obtain ⟨p', arr, fz, g1, g2, g3, g4, g5, g6, g7, g8⟩ := hO
 obtain rfl : p' = p := by rw [q1] at g1; cases g1; rfl
 obtain ⟨g9, rfl⟩ := g8 δ; rw [BG' enc_length] at g5 g7
 have hx : x = 0 := by
  rcases q3 with h | h
  ·rw [h, g9]
  ·omega
 subst hx; rw [g9, List.drop_zero] at g7; have hcells : arr.toList.take (l.length * 3) = l.flatMap enc := VRs.of_vmap g7
 have hsz : l.length * 3 <= arr.size := ω
 have hcell : ∀ j, j < l.length * 3 -> arr[j]? = (l.flatMap enc)[j]? := fun j hj => by
  rw [<- hcells, List.getElem?_take_of_lt hj]; simp
 have hH : HoldsK enc 3 w p'.blk 0 l.toArray := by
  intro j hj
  have hj' : j < l.length * 3 := by simpa using hj
  have := TC' l.toArray j (by simpa using hj'); simp only [World.cell?, World.frozen?, g3, Nat.zero_add]
  refine ⟨?_, by simp⟩
  show arr[j]? = _; rw [hcell j hj']; exact this
 have hlt : p'.blk < w.heap.size := (Array.getElem?_eq_some_iff.1 g3).1; have eg : ∀ args w, (callFunc HK' args).run Θ w = .ok (.enter HK' args) w := enters_of Try.func49 χ rfl; have hcon := AnyQ.slices_SortFunc Try.sortIt 3 Try.isAgg71 Try.sizeOf71 enc enc_length (fun x v hv => by simp [enc] at hv; rcases hv with rfl | rfl | rfl <;> rfl) cmpI V5' HK' #[] p'.blk 0 cc l.toArray w eg (gB' p'.blk 0 l.toArray.size w) hH hlt (by simpa using hb); change Calls Θ I8' _ _ _ at hcon
 have hsl : l.toArray.size = l.length := by simp
 rw [hsl] at hcon; refine hcon.mono ?_; rintro e w' ⟨rfl, d', n, os, k1, k2, rfl⟩; have hd : d'.toList = L := V9' hp hs (by rw [hsl]; exact k1) (by rw [hsl]; exact k2)
 have hds : d'.size = l.length := by rw [<- hsl]; exact k1.1
 have hLl : L.length = l.length := hp.length_eq.symm
 refine ⟨.tuple #[], rfl, N, fun i _ => rfl, fun j hj hg => hN j hj ?_, ?_, ?_⟩
 ·have e : j ≠ 0 := ω
  rw [getO, if_neg e]; rfl
 ·refine Rep.heap (Rep.turn (o' := .cells (rowV enc L) tIt) r (hfo _) rfl rfl rfl fun D hD => ?_) fun i => ?_
  ·obtain ⟨p2, arr2, fz2, d1, d2, d3, d4, d5, d6, d7, d8⟩ := hD
   obtain rfl : p2 = p' := by rw [q1] at d1; cases d1; rfl
   rw [g3] at d3
   have hheap : ∀ b, b < w.heap.size -> (sortWorldK enc 3 w p2.blk 0 n d' os).heap[b]? = (w.heap.modify p2.blk (onCells (putCells id 0 (flatK enc 3 d'))))[b]? := fun b hb => by
    show (w.heap.modify _ _ ++ os)[b]? = _; rw [Array.getElem?_append_left (by simpa using hb)]
   refine ⟨fun b hb hnb => ?_, D, ⟨p2, putCells id 0 (flatK enc 3 d') arr, (0, 0), q1, d2, ?_, ?_, ?_, Or.inl rfl, ?_, fun _ => ⟨g9, rfl⟩⟩, fun b hb => Or.inl hb⟩
   ·have hne : p2.blk ≠ b := fun e => hnb ((d2 b).2 e.symm)
    rw [hheap b hb, Array.getElem?_modify, if_neg hne]
   ·rw [hheap _ hlt, Array.getElem?_modify, if_pos rfl, g3]; rfl
   ·simpa [putCells] using g4
   ·rw [BG' enc_length, hLl]; exact g5
   ·rw [BG' enc_length, hLl, g9, List.drop_zero]
    have : (putCells id 0 (flatK enc 3 d') arr).toList.take (l.length * 3) = L.flatMap enc := by
     apply List.ext_getElem?; intro j
     by_cases hj : j < l.length * 3
     ·rw [List.getElem?_take_of_lt hj, <- hd, TC' d' j (by rw [hds]; exact hj), Array.getElem?_toList, putCells, Array.getElem?_mapIdx, Array.getElem?_eq_getElem ω]
      have hc : 0 <= j /\ j < 0 + (flatK enc 3 d').size := ⟨Nat.zero_le _, by rw [size_flatK, hds]; omega⟩
      simp only [Option.map_some, if_pos hc, Nat.sub_zero, id]
     ·rw [List.getElem?_eq_none (by rw [List.length_take]; omega), List.getElem?_eq_none (by rw [aJ', hLl]; omega)]
    rw [this]; exact VRs.vmap _
  ·rw [T.find_set δ]
   by_cases hi : i = 0
   ·subst hi; rw [if_pos rfl, hfo]; rfl
   ·rw [if_neg hi, hfn _ _ hi, hfn _ _ hi]
 ·simp [VRs, VR]
abbrev _root_.Go.Proofs.Ytjjjchmkonnpfaa.BM' : Nat := 32
def b1' (l L : List It) : List AV -> Option (AP AV) := fun args => match args with
 | [.slice i 0 n 3 c, .v f] => some (.need (n = l.length) (useC (fun _ => i) [.slice 0 0 l.length 3 c, sF] args [(0, .cells (rowV enc l) tIt)] (.leaf .ret [.tuple []] [(0, .cells (rowV enc L) tIt)])))
 | _ => some (.fail "sort")
def TG' : List AV -> Option (AP AV) := fun args => match args with
 | [.v (.slice none 0 0), .v f] => some (useC (fun i => i) [.v (.slice none 0 0), sF] args [] (.leaf .ret [.tuple []] []))
 | _ => some (.fail "sort")
theorem TV' (s : Ps) (L : List It) (F : HP) : oRun [(I8', b1' s.xs L)] AF' [] BM' [.ptr 0 0] (pL s) [0, 1001, 1002, 1100, 1101, 1102] F = VT.ite false (VT.bad "sort") (VT.leaf (AV.slice 1101 0 (0 + s.xs.length) 3 (Cp.lo (0 + s.xs.length))) [some (ce' [AV.slice 1001 0 s.xs.length 3 (Cp.lo (s.xs.length + s.g.length)),AV.map 1002] 170),some (ce' (rowV enc (s.xs ++ s.g)) 142),some (AO.map (mE iv s.m) s.ck),some (ce' (rep [i' 0,i' 0,i' 0] 0) 142),some (ce' (AV.rens (sgN (fun x => 1101) [] 0) (rowV enc L)) 142),none] 1102 (k6'.a ((((p' (s.xs.length.ble s.xs.length = true)).a ((p' ((List.take (s.xs.length * 3) (List.drop 0 (rowV enc (s.xs ++ s.g)))).length.beq (s.xs.length * 3) = true)).a ((p' ((List.take (s.xs.length * 3) (List.drop 0 (rowV enc (s.xs ++ s.g)))).all AV.one = true)).a ((p' (Nat.blt 0 s.xs.length = true)).a (tt'.a ((p' (((0 + s.xs.length) * 24).ble 140737488355328 = true)).a ((p' ((0 + s.xs.length).ble 9223372036854775807 = true)).a (tt'.a (f' (Nat.blt 0 (0 + s.xs.length) = true)))))))))).a t').a (((p' (0 + s.xs.length = s.xs.length)).a ((p' (VW [AV.slice 1101 0 (0 + s.xs.length) 3 (Cp.lo (0 + s.xs.length)),AV.v (Value.func (Fn.func 49) (Array.mk []) (Array.mk []))] [AV.slice 1101 0 s.xs.length 3 (Cp.lo (0 + s.xs.length)),AV.v (Value.func (Fn.func 49) (Array.mk []) (Array.mk []))])).a (f' (OW (ce' ([] ++ List.take (s.xs.length * 3) (List.drop 0 (rowV enc (s.xs ++ s.g)))) 142) (ce' (AV.rens (fun x => 1101) (rowV enc s.xs)) 142))))).a k1')))) := χ
theorem R8' (F : HP) : oRun [(I8', TG')] AF' [] BM' [.ptr 0 0] pL0 [0, 1002] F = VT.ite true (VT.leaf (e') [some (ce' [e',AV.map 1002] 170),some (AO.map [] 0)] 1100 (k6'.a ((f' (VW [e',AV.v (Value.func (Fn.func 49) (Array.mk []) (Array.mk []))] [e',AV.v (Value.func (Fn.func 49) (Array.mk []) (Array.mk []))])).a k1'))) (VT.bad "sort") := χ
theorem b0' (l L : List It) (h0 : 0 < l.length) (hb : l.length < 4611686018427387904) (hp : l.Perm L) (hs : MP' L) (F : HP) : C1OK Θ F I8' (b1' l L) := by
 intro st W0 N h w args vargs v h' n n' lg lg' c p hp1 he hc r ha hf; unfold b1' at hp1; split at hp1
 ·rename_i i m cp f; cases hp1; obtain ⟨c0, he0, rfl⟩ := A9' he; obtain ⟨hn, hc0⟩ := (Cnd.and_iff _ _).1 hc
  have hcl : ClosedC [.slice 0 0 l.length 3 cp, sF] [(0, .cells (rowV enc l) tIt)] [.tuple []] [(0, .cells (rowV enc L) tIt)] := ⟨rfl, rfl, ⟨rfl, Ye, Ye⟩, (fun x hx => by simp only [List.mem_singleton] at hx; subst hx; exact E8' _ _), ⟨Ye, Ye⟩, fun x hx => by simp only [List.mem_singleton] at hx; subst hx; exact E8' _ _⟩
  exact DT' B6' (YP' l L cp h0 hb hp hs) rfl hcl he0 hc0 r ha hf
 ·cases hp1; exact (A1' he).elim
theorem VB' : Tri Θ default I8' [.v (.slice none 0 0), sF] [] (.tuple []) [] := by
 intro W0 F N w vargs _ hN r hv; simp only [VRs, sF] at hv; obtain ⟨y1, r1, hy1, ⟨y2, r2, hy2, rfl, rfl⟩, hvl⟩ := hv
 obtain rfl : vargs = #[y1, y2] := by cases vargs; simp_all
 simp only [VR] at hy1 hy2; subst hy1 hy2; have hcon := AnyF.slices_SortFunc_none Try.sortIt none 0 (.func (.func HK') #[] #[]) w; change Calls Θ I8' _ _ _ at hcon; refine hcon.mono ?_; rintro e w' ⟨rfl, rfl⟩
 exact ⟨.tuple #[], rfl, N, fun i _ => rfl, hN, r, by simp [VRs, VR]⟩
theorem XH' (F : HP) : C1OK Θ F I8' TG' := by
 intro st W0 N h w args vargs v h' n n' lg lg' c p hp1 he hc r ha hf; unfold TG' at hp1; split at hp1
 ·rename_i f; cases hp1
  have hcl : ClosedC [.v (.slice none 0 0), sF] [] [.tuple []] [] := ⟨rfl, rfl, ⟨Ye, Ye, Ye⟩, (fun x hx => by cases hx), ⟨Ye, Ye⟩, fun x hx => by cases hx⟩
  exact DT' B6' VB' rfl hcl he hc r ha hf
 ·cases hp1; exact (A1' he).elim
theorem WM' (s : Ps) (L : List It) (hP : PI s) (h0 : 0 < s.xs.length) (hp : s.xs.Perm L) (hs : MP' L) : Tri Θ default BM' [.ptr 0 0] [(0, pO s)] (.slice 1000 0 L.length 3 (.lo L.length)) [(0, pO s), (1000, .cells (rowV enc L) tIt)] := by
 have hb := hP.big; have hL : L.length = s.xs.length := hp.length_eq.symm
 have hx : List.take (s.xs.length * 3) (List.drop 0 (rowV enc (s.xs ++ s.g))) = rowV enc s.xs := by
  rw [List.drop_zero, GB' enc_length]; simp
 refine CH' (AR' (con := [(I8', b1' s.xs L)]) (hints := AF') (lc := []) [0, 1001, 1002, 1100, 1101, 1102] rfl (N0' (b0' s.xs L h0 ω hp hs)) noL fun F => ?_)
 rw [TV']
 refine ⟨fun h => (by cases h), fun _ => ⟨?_, ?_⟩⟩
 ·rw [hx]
  simp only [Cnd.holds, List.nil_append, Nat.zero_add]; and_intros; all_goals first | exact Ye | exact Yb | exact OW.of_eq (by rw [A8']) | rfl | exact Z1' (fun _ => rfl) _ | (simp only [BG' enc_length, Nat.beq_refl]) | (simp only [Nat.ble_eq, Nat.blt_eq]; omega)
 ·have hgo : Goes [AV.slice 1000 0 L.length 3 (.lo L.length)] (pL s ++ [(1000, .cells (rowV enc L) tIt)]) [AV.slice 1000 0 L.length 3 (.lo L.length)] ((0, pO s) :: [(1000, .cells (rowV enc L) tIt)]) :=
   Goes.shut (σ := Unit) (R := fun _ => True) (L := fun _ => pL s) (m := .pile s) (H0 := [(1000, .cells (rowV enc L) tIt)]) () trivial rfl ⟨_, _, rfl, rfl⟩ ⟨rfl, Ye⟩ (fun x hx => by simp only [List.mem_singleton] at hx; subst hx; exact E8' _ _)
  refine ⟨[.slice 1000 0 L.length 3 (.lo L.length)], (pL s ++ [((1000 : Nat), ce' (rowV enc L) tIt)] : LH), [(1001, 1001), (1002, 1002), (1000, 1101)], rfl, BC' _ χ χ ?_ ⟨⟨_, rfl, Yc⟩, ⟨_, rfl, OW.of_eq ?_⟩, ⟨_, rfl, OW.of_eq ?_⟩, ⟨_, rfl, OW.of_eq ?_⟩, Ye⟩, hgo⟩
  ·rw [hL, Nat.zero_add]; exact Yb
  ·show ce' _ _ = ce' (AV.rens _ _) _; rw [A8']
  ·show AO.map _ _ = AO.map (renE _ _) _; rw [LI']
  ·show ce' (AV.rens _ _) _ = ce' (AV.rens _ _) _; rw [A8', A8']
theorem U5' : Tri Θ default BM' [.ptr 0 0] [(0, pO0)] (.v (.slice none 0 0)) [(0, pO0)] := by
 refine DL' (AR' (con := [(I8', TG')]) (hints := AF') (lc := []) [0, 1002] rfl (N0' XH') noL fun F => ?_); rw [R8']
 refine ⟨fun _ => ⟨?_, GI' [(1002, 1002)] χ χ (Yb) ⟨Ye, Ye⟩ ⟨⟨_, rfl, Yc⟩, ⟨_, rfl, Yc⟩, Ye⟩⟩, fun h => (by cases h)⟩
 simp only [Cnd.holds]; and_intros; all_goals first | exact Ye | exact Yb | rfl
theorem aE' {vs : List AV} {i : Nat} {o o' : AO} {H0 : LH} (hb : ∀ a, AD' T.limit ((i, a) :: H0) = true) (h : OW o o') : Goes vs ((i, o) :: H0) vs ((i, o') :: H0) := by
 intro W0 F N ys w ⟨N', g1, g2, r, hv⟩
 have hf : ∀ (a : AO) j, (AN' ((i, a) :: H0)).find j = if j = i then some a else getO H0 j := fun a j => by
  rw [AG' (hb a), getO]
 refine ⟨N', g1, fun j hj hg => g2 j hj ?_, ?_, hv⟩
 ·rw [getO] at hg ⊢; split at hg
  ·cases hg
  ·rename_i e; rw [if_neg e]; exact hg
 ·obtain ⟨D0, D, h1, h2, h3⟩ := r.sat
  have q : ∀ j b, (AN' ((i, o') :: H0)).find j = some b -> ∃ b2, (AN' ((i, o) :: H0)).find j = some b2 := fun j b hj => by
   rw [hf] at hj ⊢; split at hj
   ·rename_i e; exact ⟨o, by rw [if_pos e]⟩
   ·rename_i e; exact ⟨b, by rw [if_neg e]; exact hj⟩
  refine ⟨r.os, r.tape, r.output, D0, D, h1, fun j b hj => ?_, fun j k b b' hj hk hjk => ?_⟩
  ·rw [hf] at hj; split at hj
   ·rename_i e; cases hj; subst e; have := h2 j o (by rw [hf, if_pos rfl]); exact ⟨h _ _ _ _ this.1, this.2⟩
   ·rename_i e; exact h2 j b (by rw [hf, if_neg e]; exact hj)
  ·obtain ⟨b2, hb2⟩ := q j b hj; obtain ⟨b3, hb3⟩ := q k b' hk; exact h3 j k b2 b3 hb2 hb3 hjk
theorem Aitems_tri (L : List It) (hL : L ≠ []) : Tri Θ default BM' [.ptr 0 0] [(0, lO L)] (.slice 1000 0 L.length 3 (.lo L.length)) [(0, lO L), (1000, .cells (rowV enc L) tIt)] := by
 refine GD' ⟨rfl, Ye⟩ (fun s hs => ?_) (fun e => absurd e hL)
 have h0 : 0 < s.xs.length := by
  rw [hs.len]; exact List.length_pos_iff.2 hL
 exact Tri.post (WM' s L hs.pi h0 hs.perm.symm hs.sorted) (aE' (fun _ => rfl) (GT' hs))
end Go.Proofs.Ytjjjchmkonnpfaa.Rk
namespace Go.Proofs.Ytjjjchmkonnpfaa.Eng
open Go Go.RowKit
variable {H H' : LH}
theorem L0' : ∀ (H H' : LH) (i : Nat), getO (H ++ H') i = match getO H i with | some o => some o | none => getO H' i
 | [], H', i => rfl
 | x :: l, H', i => by
  rw [List.cons_append, getO, getO]
  by_cases e : i = x.1
  ·rw [if_pos e, if_pos e]
  ·rw [if_neg e, if_neg e]; exact L0' l H' i
theorem RA' {b : Nat} (h : AD' b H = true) (h' : AD' b H' = true) : AD' b (H ++ H') = true := by
 simp only [AD', List.all_append, Bool.and_eq_true] at *; exact ⟨h, h'⟩
theorem YS' {W0 w w' : World} {F : HP} {N N1 : A3'} (hl : AD' 1100 H = true) (hl' : AD' 1100 H' = true) (hd : ∀ i o, getO H' i = some o -> 1000 <= i /\ getO H i = none)
  (hNB : NB N H) (r : Rep W0 N F (AN' H) w) (g0 : ∀ i, i < 1000 -> N1 i = none) (g1 : NB N1 H') (r1 : Rep w N1 (HP.old w) (AN' H') w') :
  ∃ N2 : A3', (∀ i, i < 1000 -> N2 i = N i) /\ NB N2 (H ++ H') /\ Rep W0 N2 F (AN' (H ++ H')) w' /\ N.le N2 /\ N1.le N2 := by
 have hf : ∀ i, (AN' H).find i = getO H i := AG' (GG' hl); have hf' : ∀ i, (AN' H').find i = getO H' i := AG' (GG' hl'); have hf2 : ∀ i, (AN' (H ++ H')).find i = getO (H ++ H') i := AG' (GG' (RA' hl hl')); have hb := r1.old_below; have rb := r.below hb
 have hN : N.le (fun i => if (getO H' i).isSome then N1 i else N i) := fun i l hi => by
  cases h : getO H' i with
  | none => simpa [h] using hi
  | some o =>
   have := hNB i (hd i o h).1 (hd i o h).2; rw [this] at hi; cases hi
 have hN1 : N1.le (fun i => if (getO H' i).isSome then N1 i else N i) := fun i l hi => by
  cases h : getO H' i with
  | some o => simpa [h] using hi
  | none =>
   rcases Nat.lt_or_ge i 1000 with h2 | h2
   ·rw [g0 i h2] at hi; cases hi
   ·rw [g1 i h2 h] at hi; cases hi
 refine ⟨_, fun i hi => ?_, fun i hi hn => ?_, ?_, hN, hN1⟩
 ·have h : getO H' i = none := by
   cases h : getO H' i with
   | none => rfl
   | some o => have := (hd i o h).1; omega
  simp [h]
 ·rw [L0'] at hn
  cases h : getO H i with
  | some o => rw [h] at hn; cases hn
  | none =>
   rw [h] at hn; simp only at hn; simpa [hn] using hNB i hi h
 ·obtain ⟨D0, D, h1, h2, h3⟩ := r.sat; obtain ⟨B0, B, k1, k2, k3⟩ := r1.sat; have hB0 : ∀ b, B0 b ↔ b < w.heap.size := k1.1
  have lt : ∀ i o, getO H i = some o -> ∀ b, D i b -> b < w.heap.size := fun i o hi b hb => ((h2 i o ((hf i).trans hi)).1.lt b hb)
  have ge : ∀ i o, getO H' i = some o -> ∀ b, B i b -> w.heap.size <= b := fun i o hi b hb' => by
   have := (k2 i o ((hf' i).trans hi)).2 b hb'; rw [hB0] at this; omega
  refine ⟨hb.os.trans r.os, hb.tape.trans r.tape, hb.output.trans r.output, D0, fun i b => if (getO H' i).isSome then B i b else D i b, F.far (fun b hb' => hb.block b (F.lt h1 b hb')) h1, fun i o hi => ?_, fun i j o o' hi hj hij b hbi hbj => ?_⟩
  ·rw [hf2, L0'] at hi
   cases h : getO H' i with
   | some o1 =>
    rw [(hd i o1 h).2] at hi; simp only [h, Option.some.injEq] at hi; subst hi; show OR _ i o1 (fun b => if (getO H' i).isSome then B i b else D i b) w' /\ ∀ b, (if (getO H' i).isSome then B i b else D i b) -> ¬ D0 b; simp only [h, Option.isSome_some, if_true]
    refine ⟨((k2 i o1 ((hf' i).trans h)).1).mono hN1, fun b hb' h0 => ?_⟩
    have := ge i o1 h b hb'; have := F.lt h1 b h0; omega
   | none =>
    show OR _ i o (fun b => if (getO H' i).isSome then B i b else D i b) w' /\ ∀ b, (if (getO H' i).isSome then B i b else D i b) -> ¬ D0 b; simp only [h, Option.isSome_none, Bool.false_eq_true, if_false]
    cases hh : getO H i with
    | none => rw [hh] at hi; simp only [h] at hi; cases hi
    | some o1 =>
     rw [hh] at hi; cases hi; have hq := h2 i o ((hf i).trans hh); exact ⟨(hq.1.far (fun b hb' => hb.block b (hq.1.lt b hb'))).mono hN, hq.2⟩
  ·rw [hf2, L0'] at hi hj
   have side : ∀ i o b, (match getO H i with | some o => some o | none => getO H' i) = some o -> (if (getO H' i).isSome then B i b else D i b) -> (∃ o1, getO H' i = some o1 /\ B i b) \/ (getO H' i = none /\ getO H i = some o /\ D i b) := by
    intro i o b hi hb'
    cases h : getO H' i with
    | some o1 => rw [h] at hb'; exact .inl ⟨o1, rfl, by simpa using hb'⟩
    | none =>
     rw [h] at hb'
     cases hh : getO H i with
     | none => rw [hh] at hi; simp only [h] at hi; cases hi
     | some o2 => rw [hh] at hi; cases hi; exact .inr ⟨rfl, rfl, by simpa using hb'⟩
   rcases side i o b hi hbi with ⟨o1, q1, q2⟩ | ⟨q0, q1, q2⟩
   ·rcases side j o' b hj hbj with ⟨o2, p1, p2⟩ | ⟨p0, p1, p2⟩
    ·exact k3 i j o1 o2 ((hf' i).trans q1) ((hf' j).trans p1) hij b q2 p2
    ·have := ge i o1 q1 b q2; have := lt j o' p1 b p2; omega
   ·rcases side j o' b hj hbj with ⟨o2, p1, p2⟩ | ⟨p0, p1, p2⟩
    ·have := ge j o2 p1 b p2; have := lt i o q1 b q2; omega
    ·exact h3 i j o o' ((hf i).trans q1) ((hf j).trans p1) hij b q2 p2
theorem dG' {P : Program} {W : World} {f : FuncId} {A : List AV} {v : AV} (hl : AD' 1100 H = true) (hl' : AD' 1100 H' = true) (hd : ∀ i o, getO H' i = some o -> 1000 <= i /\ getO H i = none)
  (h : ∀ (W0 : World) (F : HP) (N : A3') (w : World) (vargs : Array Value), B9' W F -> NB N H -> Rep W0 N F (AN' H) w -> VRs N A vargs.toList -> ∃ A1, vargs.toList = A1 /\ Tri P w f (vmap A1) [] v H') : Tri P W f A H v (H ++ H') := by
 intro W0 F N w vargs hF hNB r ha; obtain ⟨A1, hA, ht⟩ := h W0 F N w vargs hF hNB r ha
 have hold : B9' w (HP.old w) := by
  intro D w' hF b o hv; have hF' : (HP.old w).on D w' := hF; rw [hF'.2 _ (Array.getElem?_eq_some_iff.1 hv).1]; exact hv
 refine (ht w (HP.old w) (fun _ => none) w vargs hold (fun _ _ _ => rfl) (R3' w) (by rw [hA]; exact VRs.vmap _)).mono ?_; rintro e w' ⟨y, rfl, N1, g0, g1, r1, hv⟩; obtain ⟨N2, q0, q1, q2, q3, q4⟩ := YS' hl hl' hd hNB r g0 g1 r1; exact ⟨y, rfl, N2, q0, q1, q2, VRs.mono q4 hv⟩
end Go.Proofs.Ytjjjchmkonnpfaa.Eng
namespace Go.Proofs.Ytjjjchmkonnpfaa.Qb
open Go Go.RowKit Eng Kit Tree
open Rk (lO itA CP' putL MQ')
variable {d : Nat} {FV TV : AV} {vs : List AV}
def er (c : Kc) : Kc := { c with ha := none, hc := 0, ta := none, tc := 0 }
def erM (m : IMap Kc) : IMap Kc := m.map fun e => (e.1, er e.2.1, e.2.2)
theorem JJ' (k : Int) : ∀ (m : IMap Kc) (i : Nat), CJ' k (erM m) i = (CJ' k m i).map fun p => (p.1, er p.2)
 | [], i => rfl
 | e :: l, i => by
  show CJ' k ((e.1, er e.2.1, e.2.2) :: erM l) i = _; rw [CJ', CJ']
  by_cases h : k = e.1
  ·simp only [h, if_true]; rfl
  ·simp only [h, if_false]; exact JJ' k l (i + 1)
theorem TD' (k : Int) (m : IMap Kc) : AK' k (erM m) = (AK' k m).map er := by
 rw [<- D8' k _ 0, <- D8' k m 0, JJ']
 cases CJ' k m 0 <;> rfl
theorem g3' (m : IMap Kc) (ck : Nat) (k : Int) (c : Kc) : erM (mset m ck k c) = mset (erM m) ck k (er c) := by
 unfold mset; rw [JJ']
 cases CJ' k m 0 with
 | none => simp [erM]
 | some p => simp [erM, List.map_set, List.getElem?_map]; cases m[p.1]? <;> rfl
theorem aQ' (m : IMap Kc) (ck : Nat) (k : Int) : EE' (erM m) ck k = EE' m ck k := by
 unfold EE'; rw [JJ']
 cases CJ' k m 0 <;> rfl
theorem RM' (m : IMap Kc) (k : Int) : erM (mdel m k) = mdel (erM m) k := by
 unfold mdel; rw [JJ']
 cases CJ' k m 0 with
 | none => rfl
 | some p => simp [erM, List.eraseIdx_eq_take_drop_succ]
def PM (d : Nat) (m : IMap Kc) (C : Mem) : Prop := ∀ e ∈ m, KAt C d e.2.1
theorem PM.mono {m : IMap Kc} {C C' : Mem} (h : ∀ a v, C a = some v -> C' a = some v) (hp : PM d m C) : PM d m C' := fun e he => (hp e he).mono h
def withM (A : Qs) (m : IMap Kc) : Qs := { A with m := m }
def RQ (A : Qs) (s : Qs) : Prop := s = withM A s.m /\ erM s.m = A.m
def qL (d : Nat) (s : Qs) : LH := uQ s (PM d s.m)
def qO (d : Nat) (A : Qs) : AO := .own .nothing (exHP (RQ A) (qL d))
theorem N5' (K : Nat -> Bool) : ∀ m : IMap Kc, clE K (mE aggK m)
 | [] => trivial
 | e :: m => ⟨Ye, ⟨Ye, Ye, Ye, Ye, Ye, Ye, Ye, Ye, Ye, Ye, Ye, Ye, Ye, Ye, Ye, Ye, Ye, Ye, Ye, Ye, Ye, Ye, Ye, Ye, Ye, Ye⟩, N5' K m⟩
theorem KI' (K : Nat -> Bool) : ∀ m : IMap Int, clE K (mE iv m)
 | [] => trivial
 | e :: m => ⟨Ye, Ye, KI' K m⟩
theorem OK' (K : Nat -> Bool) (c : Kc) : AV.cl K (aggK c) := ⟨Ye, Ye, Ye, Ye, Ye, Ye, Ye, Ye, Ye, Ye, Ye, Ye, Ye, Ye, Ye, Ye, Ye, Ye, Ye, Ye, Ye, Ye, Ye, Ye, Ye, Ye⟩
theorem CR' {K : Nat -> Bool} (c : Kc) (h1 : AV.cl K FV) (h2 : AV.cl K TV) : AV.cl K (aggN c FV TV) := ⟨Ye, Ye, Ye, Ye, Ye, Ye, Ye, Ye, Ye, h1, Ye, Ye, Ye, Ye, Ye, Ye, Ye, Ye, Ye, Ye, Ye, Ye, h2, Ye, Ye, Ye⟩
theorem VM' (K : Nat -> Bool) (h : K 1001 = true /\ K 1003 = true /\ K 1004 = true) (c : Cf) (la : Int) : (qC c la).cl K := ⟨Ye, Ye, Ye, Ye, Ye, Ye, Ye, Ye, Ye, Ye, h.1, h.2.1, h.2.2, Ye, Ye, Ye⟩
theorem uQ_cl (K : Nat -> Bool) (h : K 1001 = true /\ K 1003 = true /\ K 1004 = true) (s : Qs) (P : Mem -> Prop) : ∀ x ∈ uQ s P, x.2.cl K :=
 A0' (VM' K h _ _) (A0' (N5' K _) (A0' Ye (A0' Ye (A0' (KI' K _) A4'))))
theorem uB_cl (K : Nat -> Bool) (h : K 1001 = true /\ K 1003 = true /\ K 1004 = true) (s : Qs) (P : Mem -> Prop) (c : Kc) : ∀ x ∈ uB s P c, x.2.cl K :=
 A0' (VM' K h _ _) (A0' (N5' K _) (A0' Ye (A0' Ye (A0' (KI' K _) (A0' (L3' K _) A4')))))
theorem qO_cl (K : Nat -> Bool) (d : Nat) (A : Qs) : (qO d A).cl K := trivial
theorem GC' {W : World} {A : Qs} {f : FuncId} {Ar : List AV} {v : AV} {H' : LH} (h : ∀ s, RQ A s -> Tri Θ W f Ar (uQ s (PM d s.m)) v H') : Tri Θ W f Ar [(0, qO d A)] v H' :=
 Tri.open (σ := Qs) (R := RQ A) (L := qL d) (H0 := []) (fun s => (by kernel_rfl : ownL [] (uQ s (PM d s.m)) = true)) (fun s => uQ_cl _ ⟨rfl, rfl, rfl⟩ s _) (fun s => ⟨_, rfl⟩) fun s hs => by
  rw [List.append_nil]; exact h s hs
theorem ow_frz {P Q : Mem -> Prop} (h : ∀ C, P C -> Q C) : OW (.any (frz P)) (.any (frz Q)) := fun N i D w ⟨h1, h2⟩ => ⟨h _ h1, h2⟩
theorem aF' {s : Qs} {P Q : Mem -> Prop} {H0 : LH} (hn : AD' 1100 (uQ s P ++ H0) = true) (h : ∀ C, P C -> Q C) : Goes vs (uQ s P ++ H0) vs (uQ s Q ++ H0) := by
 intro W0 F N ys w ⟨N', g1, g2, r, hv⟩; have hn' : AD' 1100 (uQ s Q ++ H0) = true := hn; have hf : ∀ i, (AN' (uQ s P ++ H0)).find i = getO (uQ s P ++ H0) i := AG' (GG' hn); have hf' : ∀ i, (AN' (uQ s Q ++ H0)).find i = getO (uQ s Q ++ H0) i := AG' (GG' hn')
 have hg : ∀ i o, getO (uQ s Q ++ H0) i = some o -> ∃ o', getO (uQ s P ++ H0) i = some o' /\ OW o' o := fun i o hi => by
  by_cases e : i = 1002
  ·subst e; obtain rfl : AO.any (frz Q) = o := Option.some.inj hi; exact ⟨_, rfl, ow_frz h⟩
  ·refine ⟨o, ?_, Yc⟩; simp only [uQ, List.cons_append, List.nil_append, getO, if_neg e] at hi ⊢; exact hi
 refine ⟨N', g1, fun i hi hgn => g2 i hi ?_, ?_, hv⟩
 ·by_cases e : i = 1002
  ·subst e; cases hgn
  ·simp only [uQ, List.cons_append, List.nil_append, getO, if_neg e] at hgn ⊢; exact hgn
 ·obtain ⟨D0, D, h1, h2, h3⟩ := r.sat
  refine ⟨r.os, r.tape, r.output, D0, D, h1, fun i o hi => ?_, fun i j o o' hi hj hij => ?_⟩
  ·rw [hf'] at hi; obtain ⟨o', q1, q2⟩ := hg i o hi; have := h2 i o' (by rw [hf]; exact q1); exact ⟨q2 _ _ _ _ this.1, this.2⟩
  ·rw [hf'] at hi hj; obtain ⟨o1, q1, _⟩ := hg i o hi; obtain ⟨o2, q2, _⟩ := hg j o' hj; exact h3 i j o1 o2 (by rw [hf]; exact q1) (by rw [hf]; exact q2) hij
theorem bF' {A : Qs} {s : Qs} {P : Mem -> Prop} {H0 : LH} (hs : RQ A s) (hP : ∀ C, P C -> PM d s.m C) (hL : ownL H0 (uQ s (PM d s.m)) = true) (hn : AD' 1100 (uQ s P ++ H0) = true) (hv : AV.cls (fun i => Nat.blt i 1000 || (getO H0 i).isSome) vs) (ho : ∀ x ∈ H0, x.2.cl (fun i => Nat.blt i 1000 || (getO H0 i).isSome)) : Goes vs (uQ s P ++ H0) vs ((0, qO d A) :: H0) :=
 (aF' hn hP).trans (Goes.shut (σ := Qs) (R := RQ A) (L := qL d) (m := .nothing) s hs hL ⟨_, _, rfl, rfl⟩ hv ho)
theorem KL' : ∀ args, RO (gP1 args) := by
 intro args; unfold gP1
 repeat' split
 all_goals exact Kq19'
theorem TH' {L : List It} (x : It) (hR : MQ' L) (F : HP) : C1OK Θ F EN' (M4' L x) :=
 D7' (W := default) B6' (fun _ => .v (.bool (!CP' x.b L))) KL' (fun _ => rfl) (fun _ _ => Rk.Aput_tri L x hR) fun _ => ⟨rfl, rfl, ⟨rfl, ⟨Ye, Ye, Ye, Ye⟩, Ye⟩, A0' Ye A4', ⟨Ye, Ye⟩, A0' Ye A4'⟩
theorem O7' (L : List It) (F : HP) : C1OK Θ F EO' (KT' L) :=
 D7' (W := default) B6' (fun _ => .tuple [itA (L.headD Rk.It.zero), .v (.bool (!L.isEmpty))]) KL' (fun _ => rfl) (fun _ _ => Rk.Apop_tri L) fun _ => ⟨rfl, rfl, ⟨rfl, Ye⟩, A0' Ye A4', ⟨⟨⟨Ye, Ye, Ye, Ye⟩, Ye, Ye⟩, Ye⟩, A0' Ye A4'⟩
theorem O8' (L : List It) (F : HP) : C1OK Θ F EP' (O9' L) :=
 D7' (W := default) B6' (fun _ => iv (Int.ofNat L.length)) KL' (fun _ => rfl) (fun _ _ => Rk.Alen_tri L) fun _ => ⟨rfl, rfl, ⟨rfl, Ye⟩, A0' Ye A4', ⟨Ye, Ye⟩, A0' Ye A4'⟩
theorem tO_raw {N : A3'} {k : Nat} {D : Nat -> Prop} {w : World} : ∀ {l : List Δ} {y : Value}, l.length * 16 <= big -> OR N k (tOd l) D w -> VR N (tVk k l) y -> ∃ ta tc, y = .slice ta l.length tc /\ SAt (D4' D w) ta l
 | [], y, _, _, h => by
  simp only [tVk, VR] at h; obtain ⟨a, rfl⟩ := h
  exact ⟨_, _, rfl, Nat.zero_le _, fun i t ht => by simp at ht⟩
 | v :: l, y, hb, ho, h => by
  obtain ⟨lo, x, c, h1, rfl, h3⟩ := LA' h; obtain ⟨lo', h1', h0, h2⟩ := Q7' (cs := (v :: l).map Value.string) ho; rw [h1] at h1'; cases h1'
  refine ⟨_, _, rfl, hb, fun i t ht => ⟨_, rfl, ?_⟩⟩
  rw [h3 (Nat.succ_pos _), h0]; have hq := h2 i (.string t) (by rw [List.getElem?_map, ht]; rfl)
  have e : ((Addr.mk lo.blk 0 none).add i) = Addr.mk lo.blk i none := by
   unfold Addr.add; split
   ·rename_i hi; subst hi; rfl
   ·show Addr.mk lo.blk (0 + i) none = _; rw [Nat.zero_add]
  rw [e]; exact hq
theorem cCd_ok {W : World} {c : Kc} (h : KAt W.cell? d c) (F : HP) (hF : B9' W F) : C1OK Θ F fCd (cCd c (fV c.f) (tV c.tr) (fOd d c.f) (tOd c.tr)) :=
 D7' hF (fun _ => aggN c (fV c.f) (tV c.tr)) (fun _ => RO.ret _) (fun _ => rfl) (fun _ _ => NF' W d c h) fun _ => ⟨rfl, rfl, ⟨OK' _ _, Ye⟩, A4', ⟨CR' _ (aM' rfl _) (tV_cl rfl _), Ye⟩, A0' (aN' _ _ _) (A0' (tO_cl _ _) A4')⟩
theorem RQ' (d : Nat) (c : Kc) (P : Mem -> Prop) (hP : ∀ C, P C -> KAt C d c) : Tri Θ default fCd [aggK c] [(0, .any (frz P))] (aggN c (fV c.f) (tV c.tr)) [(0, .any (frz P)), (1007, fOd d c.f), (1008, tOd c.tr)] := by
 refine dG' (H := [(0, .any (frz P))]) (H' := [(1007, fOd d c.f), (1008, tOd c.tr)]) rfl rfl (fun i x h => by
  simp only [getO] at h ⊢
  by_cases e : i = 1007
  ·subst e; exact ⟨δ, by simp⟩
  ·rw [if_neg e] at h
   by_cases e' : i = 1008
   ·subst e'; exact ⟨δ, by simp⟩
   ·rw [if_neg e'] at h; cases h) fun W0 F N w vargs hF hNB r ha => ?_
 simp only [VRs] at ha; obtain ⟨y1, r1, h1, rfl, hl⟩ := ha
 have hfo : (AN' [(0, AO.any (frz P))]).find 0 = some (.any (frz P)) := by rw [AG' χ, getO, if_pos rfl]
 obtain ⟨D, hO⟩ := r.obj hfo; have hp : P (D4' D w) := hO.1
 have hy : y1 = .agg c.cells.toArray := by
  have h1' : VR N (.agg (vmap c.cells)) y1 := h1; simp only [VR] at h1'; obtain ⟨cs, q1, q2⟩ := h1'; rw [q2, VRs.of_vmap q1]
 refine ⟨[y1], hl, ?_⟩; have := NF' w d c ((hP _ hp).mono fun a v h => (N3' h).2); rw [hy]; intro W1 F1 N1 w1 vargs1 hF1 hN1 r1 ha1; refine this W1 F1 N1 w1 vargs1 hF1 hN1 r1 ?_; rw [VRs.of_vmap (l := [.agg c.cells.toArray]) ha1]; refine AA'.2 ⟨?_, AT'⟩; show VR N1 (.agg (vmap c.cells)) _; simp only [VR]; exact ⟨_, VRs.vmap _, rfl⟩
theorem LU' {vs' : List AV} {H H' : LH} (hn : AD' 1100 H = true) (hn' : AD' 1100 H' = true) (hv : VW vs vs') (hh : ∀ i o, getO H' i = some o -> getO H i = some o) (hc : AV.cls (fun i => Nat.blt i 1000 || (getO H' i).isSome) vs') (ho : ∀ x ∈ H', x.2.cl (fun i => Nat.blt i 1000 || (getO H' i).isSome)) : Goes vs H vs' H' := by
 intro W0 F N ys w ⟨N', g1, g2, r, hvs⟩; have hf : ∀ i, (AN' H).find i = getO H i := AG' (GG' hn); have hf' : ∀ i, (AN' H').find i = getO H' i := AG' (GG' hn'); obtain ⟨D0, D, h1, h2, h3⟩ := r.sat
 have r' : Rep W0 N' F (AN' H') w := ⟨r.os, r.tape, r.output, D0, D, h1, fun i o hi => h2 i o (by rw [hf'] at hi; rw [hf]; exact hh i o hi), fun i j o o' hi hj => h3 i j o o' (by rw [hf'] at hi; rw [hf]; exact hh i o hi) (by rw [hf'] at hj; rw [hf]; exact hh j o' hj)⟩
 exact IL' hn' g1 r' (hv _ _ hvs) hc ho
def isSl (x : AV) : Prop := ∀ (N : A3') (y : Value), VR N x y -> ∃ a n c, y = .slice a n c
theorem wk_un {x : AV} (h : isSl x) : Wk x .un := fun N y hy => by
 simp only [VR]; exact h N y hy
theorem P5' (a : Option Addr) (n c : Nat) : isSl (slV a n c) := fun N y hy => ⟨_, _, _, VR_v.1 hy⟩
theorem bE' (i o n z : Nat) (c : Cp) : isSl (.slice i o n z c) := fun N y hy => by
 simp only [VR] at hy; obtain ⟨l, x, c, _, h, _⟩ := hy; exact ⟨_, _, _, h⟩
theorem sl_mt : isSl .mt := fun N y hy => by
 simp only [VR] at hy; obtain ⟨a, h⟩ := hy; exact ⟨_, _, _, h⟩
theorem dR' (k : Nat) : ∀ f : Tf, isSl (fVk k f)
 | [] => P5' _ _ _
 | _ :: _ => bE' _ _ _ _ _
theorem dQ' (k : Nat) : ∀ l : List Δ, isSl (tVk k l)
 | [] => sl_mt
 | _ :: _ => bE' _ _ _ _ _
theorem wk_agg {cs cs' : List AV} (h : VW cs cs') : Wk (.agg cs) (.agg cs') := fun N y hy => by
 simp only [VR] at hy ⊢; obtain ⟨r, h1, h2⟩ := hy; exact ⟨r, h _ _ h1, h2⟩
theorem UZ' {cs cs' : List AV} (h : VW cs cs') : Wk (.tuple cs) (.tuple cs') := fun N y hy => by
 simp only [VR] at hy ⊢; obtain ⟨r, h1, h2⟩ := hy; exact ⟨r, h _ _ h1, h2⟩
theorem vw_N (c : Kc) (h1 : isSl FV) (h2 : isSl TV) : VW (E1' c FV TV) (E1' c .un .un) := by
 unfold E1'; exact VW.cons Ya (VW.cons Ya (VW.cons Ya (VW.cons Ya (VW.cons Ya (VW.cons Ya (VW.cons Ya (VW.cons Ya (VW.cons Ya (VW.cons (wk_un h1) (VW.cons Ya (VW.cons Ya (VW.cons Ya (VW.cons Ya (VW.cons Ya (VW.cons Ya (VW.cons Ya (VW.cons Ya (VW.cons Ya (VW.cons Ya (VW.cons Ya (VW.cons Ya (VW.cons (wk_un h2) (Yb)))))))))))))))))))))))
theorem V0' (c : Kc) (h1 : isSl FV) (h2 : isSl TV) : Wk (aggN c FV TV) (aggU c) := wk_agg (vw_N c h1 h2)
theorem wk_K (c : Kc) : Wk (aggK c) (aggU c) := V0' c (P5' _ _ _) (P5' _ _ _)
theorem RP' (d : Nat) (c : Kc) (P : Mem -> Prop) (hP : ∀ C, P C -> KAt C d c) : Tri Θ default fCd [aggK c] [(0, .any (frz P))] (aggU c) [(0, .any (frz P))] :=
 Tri.post (RQ' d c P hP) (LU' rfl rfl (VW.cons (V0' c (dR' _ _) (dQ' _ _)) VW.nil) (fun i o h => by
  simp only [getO] at h ⊢
  by_cases e : i = 0
  ·rw [if_pos e] at h ⊢; exact h
  ·rw [if_neg e] at h; cases h) ⟨CR' c trivial trivial, Ye⟩ (A0' Ye A4'))
theorem XO' {c : Kc} {P : Mem -> Prop} (hP : ∀ C, P C -> KAt C d c) (F : HP) : C1OK Θ F fCd (cCr c P) :=
 D7' (W := default) B6' (fun _ => aggU c) (fun _ => RO.ret _) (fun _ => rfl) (fun _ _ => RP' d c P hP) fun _ => ⟨rfl, rfl, ⟨OK' _ _, Ye⟩, A0' Ye A4', ⟨CR' c trivial trivial, Ye⟩, A0' Ye A4'⟩
def uC (c : Kc) : List AV := E1' c .un .un
def rowU (R : List Kc) : List AV := R.flatMap uC
theorem OY' (c : Kc) : (uC c).length = 25 := rfl
theorem CG' (c : Kc) (R : List Kc) : rowU (c :: R) = uC c ++ rowU R := by rw [rowU, List.flatMap_cons]; rfl
theorem D2' (R S : List Kc) : rowU (R ++ S) = rowU R ++ rowU S := by rw [rowU, List.flatMap_append]; rfl
theorem ET' (c : Kc) : rowU [c] = uC c := by rw [CG']; exact List.append_nil _
theorem BV' : ∀ R : List Kc, (rowU R).length = R.length * 25
 | [] => rfl
 | c :: R => by rw [CG', List.length_append, BV' R, OY', List.length_cons]; omega
theorem PA' : ∀ (R : List Kc) (i : Nat), (rowU R).drop (i * 25) = rowU (R.drop i)
 | R, 0 => by simp
 | [], i + 1 => by simp [rowU]
 | c :: R, i + 1 => by
  have h2 : (i + 1) * 25 = (uC c).length + i * 25 := by rw [OY']; omega
  rw [CG', h2, List.drop_length_add_append, PA' R i, List.drop_succ_cons]
theorem HG' : ∀ (R : List Kc) (i : Nat), (rowU R).take (i * 25) = rowU (R.take i)
 | R, 0 => by simp [rowU]
 | [], i + 1 => by simp [rowU]
 | c :: R, i + 1 => by
  have h2 : (i + 1) * 25 = (uC c).length + i * 25 := by rw [OY']; omega
  rw [CG', h2, List.take_length_add_append, HG' R i, List.take_succ_cons, CG']
theorem VG' (R : List Kc) (i : Nat) (c : Kc) (h : R[i]? = some c) : ((rowU R).drop (i * 25)).take 25 = uC c := by
 obtain ⟨hi, hc⟩ := List.getElem?_eq_some_iff.1 h; rw [PA', List.drop_eq_getElem_cons hi, CG', List.take_append_of_le_length (by rw [OY']; exact Yd), List.take_of_length_le (by rw [OY']; exact Yd), hc]
theorem NV' (σ : Nat -> Nat) (c : Kc) : AV.rens σ (uC c) = uC c := rfl
theorem AC' (σ : Nat -> Nat) : ∀ R : List Kc, AV.rens σ (rowU R) = rowU R
 | [] => rfl
 | c :: R => by rw [CG', GR', AC' σ R, NV']
theorem bZ' (K : Nat -> Bool) (c : Kc) : AV.cls K (uC c) := CR' (K := K) c trivial trivial
theorem CZ' (K : Nat -> Bool) : ∀ R : List Kc, AV.cls K (rowU R)
 | [] => trivial
 | c :: R => by rw [CG']; exact XB' (bZ' K c) (CZ' K R)
def xRk (k : Nat) : List Kc -> AV
 | [] => nilS
 | c :: R => .slice k 0 (R.length + 1) 25 (.lo (R.length + 1))
def rO : List Kc -> AO
 | [] => dumZ
 | c :: R => .cells (rowU (c :: R)) tKc
theorem PB' (σ : Nat -> Nat) (k : Nat) : ∀ R, AV.ren σ (xRk k R) = xRk (σ k) R
 | [] => rfl
 | _ :: _ => rfl
theorem DZ' (σ : Nat -> Nat) : ∀ R, AO.ren σ (rO R) = rO R
 | [] => rfl
 | c :: R => by simp only [rO, AO.ren, AC']
theorem xR_cl {K : Nat -> Bool} {k : Nat} (h : K k = true) : ∀ R, AV.cl K (xRk k R)
 | [] => trivial
 | _ :: _ => h
theorem VL' (K : Nat -> Bool) : ∀ R, (rO R).cl K
 | [] => trivial
 | c :: R => CZ' K (c :: R)
end Go.Proofs.Ytjjjchmkonnpfaa.Qb
namespace Go.Proofs.Ytjjjchmkonnpfaa.Rk
open Go Go.RowKit Eng Kit
abbrev X2' : Nat := 47
def Q9' : List AV -> Option (AP AV) := fun args => match args with
 | [.slice i 0 0 3 c, .v f] => some (useC (fun _ => i) [.slice 0 0 0 3 c, sF] args [(0, .cells [] tIt)] (.leaf .ret [.tuple []] [(0, .cells [] tIt)]))
 | _ => some (.fail "sort")
theorem R7' (g : List It) (m : List (Int × Int × Nat)) (ck : Nat) (F : HP) : oRun [(I8', Q9')] (AJ' [(X2', 3, 2, h0)]) [] BM' [.ptr 0 0] (pL ⟨[], g, m, ck⟩) [0, 1001, 1002, 1100] F = VT.ite false (VT.bad "sort") (VT.leaf (AV.slice 1100 0 0 3 (Cp.ex 0)) [some (AO.cells [AV.slice 1001 0 0 3 (Cp.lo (0 + g.length)),AV.map 1002] 170),some (AO.cells (rowV enc ([] ++ g)) 142),some (AO.map (mE iv m) ck),some (AO.cells [] 142)] 1101 (k6'.a (((fe' 0).a t').a (((vw' [AV.slice 1100 0 0 3 (Cp.ex 0),AV.v (Value.func (Fn.func 49) (Array.mk []) (Array.mk []))]).a (f' (OW (AO.cells (rep [i' 0,i' 0,i' 0] 0) 142) (AO.cells [] 142)))).a k1')))) := χ
theorem VA' (c : Cp) : Tri Θ default I8' [.slice 0 0 0 3 c, sF] [(0, .cells [] tIt)] (.tuple []) [(0, .cells [] tIt)] := by
 intro W0 F N w vargs _ hN r hv; simp only [VRs, sF] at hv; obtain ⟨y1, r1, hy1, ⟨y2, r2, hy2, rfl, rfl⟩, hvl⟩ := hv
 obtain rfl : vargs = #[y1, y2] := by cases vargs; simp_all
 simp only [VR] at hy1 hy2; obtain ⟨l, x, cc, q1, rfl, _⟩ := hy1; subst hy2; have hcon := AnyF.slices_SortFunc_none Try.sortIt (some ⟨l.blk, x, none⟩) cc (.func (.func HK') #[] #[]) w; change Calls Θ I8' _ _ _ at hcon; refine hcon.mono ?_; rintro e w' ⟨rfl, rfl⟩
 exact ⟨.tuple #[], rfl, N, fun i _ => rfl, hN, r, by simp [VRs, VR]⟩
theorem XG' (F : HP) : C1OK Θ F I8' Q9' := by
 intro st W0 N h w args vargs v h' n n' lg lg' c p hp1 he hc r ha hf; unfold Q9' at hp1; split at hp1
 ·rename_i i cp f; cases hp1; have hcl : ClosedC [.slice 0 0 0 3 cp, sF] [(0, .cells [] tIt)] [.tuple []] [(0, .cells [] tIt)] := ⟨rfl, rfl, ⟨rfl, Ye, Ye⟩, A0' Ye A4', ⟨Ye, Ye⟩, A0' Ye A4'⟩; exact DT' B6' (VA' cp) rfl hcl he hc r ha hf
 ·cases hp1; exact (A1' he).elim
theorem U4' (g : List It) (m : List (Int × Int × Nat)) (ck : Nat) : Tri Θ default BM' [.ptr 0 0] [(0, pO ⟨[], g, m, ck⟩)] .mt [(0, pO ⟨[], g, m, ck⟩)] := by
 refine CH' (tri_V (con := conL [(I8', Q9')]) (claim := AJ' [(X2', 3, 2, h0)]) (lcon := MG' []) [0, 1001, 1002, 1100] 1000 PL' rfl (fun F _ => IP' rfl fun x hx => by simp only [List.mem_singleton] at hx; subst hx; exact XG' F) (fun F _ => GU' rfl fun y hy => by cases hy) fun F _ => ?_); show VAll _ (oRun [(I8', Q9')] (AJ' [(X2', 3, 2, h0)]) [] BM' [.ptr 0 0] (pL ⟨[], g, m, ck⟩) [0, 1001, 1002, 1100] F); rw [R7']
 refine ⟨⟨fun h => (by cases h), fun _ => ⟨?_, CK' ⟨[], g, m, ck⟩ [(1001, 1001), (1002, 1002)] χ χ (VW.cons C3' VW.nil) ⟨Ye, Ye⟩ (CI' _ rfl rfl rfl rfl rfl rfl)⟩⟩⟩
 simp only [Cnd.holds]; and_intros; all_goals first | (with_reducible exact Ye) | with_reducible rfl | (with_reducible exact Yc) | (with_reducible exact Yb) | exact rfl | exact Yc
theorem Tri.wk {f : FuncId} {A : List AV} {H H' : LH} {v v' : AV} (h : Tri Θ default f A H v H') (hw : Wk v v') : Tri Θ default f A H v' H' := by
 intro W0 F N w vargs hF hNB r ha; refine (h W0 F N w vargs hF hNB r ha).mono ?_; rintro e w' ⟨y, rfl, N', h1, h2, h3, h4⟩; exact ⟨y, rfl, N', h1, h2, h3, AA'.2 ⟨hw _ _ (AA'.1 h4).1, AT'⟩⟩
theorem AitemsE_tri : Tri Θ default BM' [.ptr 0 0] [(0, lO [])] .mt [(0, lO [])] := by
 refine GD' ⟨rfl, Ye⟩ (fun s hs => ?_) (fun e => ?_)
 ·have hx : s.xs = [] := List.eq_nil_of_length_eq_zero (by rw [hs.len]; rfl); obtain ⟨xs, g, m, ck⟩ := s; simp only at hx; subst hx; exact Tri.post (U4' g m ck) (DU' δ (GT' hs))
 ·exact Tri.post (Tri.wk U5' b9') (DU' δ JA')
end Go.Proofs.Ytjjjchmkonnpfaa.Rk
namespace Go.Proofs.Ytjjjchmkonnpfaa.Eng
open Go Go.RowKit Go.Maps Go.Sort Go.Shelf Go.Proofs
theorem dJ' (m : Nat) : AnyZI.SortsIn Θ Try.sorted35_ren Fence.wide m :=
 ⟨fun blk off cap ss W hH hblk hsz => callsIn_wide.2 (AnyM.slices_Sort_int Try.sort53 blk off cap ss W hH hblk hsz),
  fun p cap W => callsIn_wide.2 (AnyM.slices_Sort_int_none Try.sort53 p cap W)⟩
set_option maxHeartbeats 1000000 in
theorem QZ' : H6' Θ 35 54 3 := by
 intro Bm b nn D0 R w hBm hcell hown hmax hbytes; refine (callsIn_wide (n := 5)).1 ?_
 have hseq : SeqGives Fence.wide 2 Θ 54 #[.pointer (some ⟨Bm, 0, none⟩)] encZ (fun ss => ss.Perm (intKeys D0)) (Maps.size D0) w :=
  AnyZI.keys_gives (ρ := Try.keys36_ren) { Try.keys36 with } Fence.wide _ trivial rfl ω Bm b nn D0 _ hBm hcell hown
 exact AnyZI.sorted_in Try.sorted35 Fence.wide 5 trivial trivial trivial trivial rfl ω (dJ' _) (enters_of Try.func53 χ rfl) 54 #[.pointer (some ⟨Bm, 0, none⟩)] trivial (enters_of Try.func54 χ rfl) _ _ hmax hbytes _ hseq
theorem dK' : H6' Θ 35 54 3 := QZ'
open Go.MapKept
open Go.WideElems (rd rg rd_mk rg_of rd_key)
def EF' (o : IMap Int) : List Int := R0' leZ (o.map (·.1))
theorem HT' (o : IMap Int) : (EF' o).Perm (o.map (·.1)) := JV' _
theorem D9' (o : IMap Int) : (EF' o).length = o.length := by rw [(HT' o).length_eq, List.length_map]
theorem Rep.lessI {W0 w : World} {N : A3'} {F : HP} {h h' : Eng.T} (r : Rep W0 N F h w) (hh : ∀ i o, h'.find i = some o -> h.find i = some o) : Rep W0 N F h' w := by
 obtain ⟨D0, D, h1, h2, h3⟩ := r.sat
 exact ⟨r.os, r.tape, r.output, D0, D, h1, fun i o hi => h2 i o (hh i o hi), fun i j o o' hi hj => h3 i j o o' (hh i o hi) (hh j o' hj)⟩
section
variable {P : Program} {fS g : FuncId} {e : TypeId} {W : World} {o : IMap Int} {ck : Nat} {tb : TypeId}
def oSo (tb : TypeId) (o : IMap Int) (ck : Nat) : LH := [(0, .cells [.map 1] (2 * tb)), (1, .map (mE (fun x : Int => (.v (.int .i64 x) : AV)) o) ck)]
theorem IZ' (hu : P.underlying e = some (.int .i64)) (hS : H6' P fS g e) (hm : MI o ck) (hb : o.length * 8 <= 140737488355328) (hwf : ∀ k ∈ o.map (·.1), (Lit.int .i64 k).wf = true) {W0 : World} {F : HP} {N : A3'} {w : World} {vargs : Array Value}
  (r : Rep W0 N F (AN' (oSo tb o ck)) w) (ha : VRs N [.func (.func g) [] [.ptr 0 0]] vargs.toList) :
  Calls P fS vargs w fun en w' => ∃ v, en = .returned v /\ w'.ownsRow w.heap.size e 1 v o.length ((EF' o).map encZ) /\ (v = .slice none 0 0 ↔ o = []) /\ Below w.heap.size w w' := by
 obtain ⟨y1, h1, rfl⟩ : ∃ y, VR N (.func (.func g) [] [.ptr 0 0]) y /\ vargs = #[y] := by
  simp only [VRs] at ha; obtain ⟨y, r', h1, rfl, hl⟩ := ha
  exact ⟨y, h1, by cases vargs; simp_all⟩
 have hf : ∀ i, (AN' (oSo tb o ck)).find i = getO (oSo tb o ck) i := AG' rfl; obtain ⟨D, hO⟩ := r.obj ((hf 0).trans rfl); obtain ⟨lb, arr, fz, k1, k2, k3, k4, k5, k6, k7, k8⟩ := hO; obtain ⟨k8, -⟩ := k8 (Nat.mul_mod_right _ _); simp only [VR, VRs] at h1; obtain ⟨f', c', rfl, ⟨y, r', ⟨l, hl, rfl⟩, rfl, rfl⟩, rfl⟩ := h1; obtain rfl : lb = l := Option.some.inj (k1.symm.trans hl)
 have hk7 : ∃ lm, N 1 = some lm /\ arr[0]? = some (.map (some lm.blk)) := by
  simp only [VRs, VR] at k7; obtain ⟨y, r', ⟨l2, hl2, rfl⟩, rfl, hk⟩ := k7; rw [k8, List.drop_zero] at hk; refine ⟨l2, hl2, ?_⟩; have := congrArg (fun z : List Value => z[0]?) hk; simpa [List.getElem?_take] using this
 obtain ⟨lm, hlm, h0⟩ := hk7
 have hcell : w.cell? ⟨lb.blk, 0, none⟩ = some (.map (some lm.blk)) := by simp [World.cell?, k3, h0]
 obtain ⟨es', hbm, hes⟩ := DB' r ((hf 1).trans rfl) hlm
 have hkeys : es'.toList.map (·.key) = (o.map (·.1)).map encZ := by
  refine IC' (es := mE (fun x : Int => (.v (.int .i64 x) : AV)) o) ?_ hes; clear hm hb hwf r hf hbm hes
  induction o with
  | nil => rfl
  | cons x l ih =>
   show (match JF' (mE (fun x : Int => (.v (.int .i64 x) : AV)) l) with | some r => some (x.1 :: r) | none => none) = _
   rw [ih]; rfl
 have hsz : es'.size = o.length := by
  have := congrArg List.length hkeys; simpa using this
 have hmax : (140737488355328 : Nat) <= maxLen := by unfold maxLen; omega
 have hborn : es'.toList.map (·.born) = o.map (·.2.2) := (ERs.borns hes).trans (LM' o)
 have hst : Stamped es' ck := by
  refine ⟨fun x hx => ?_, ?_, ?_⟩
  ·have : x.born ∈ o.map (·.2.2) := by rw [<- hborn]; exact List.mem_map_of_mem hx
   obtain ⟨z, hz, hq⟩ := List.mem_map.1 this; rw [<- hq]; exact hm.low z hz
  ·rw [hborn]; exact hm.stamps
  ·rw [hkeys, List.nodup_iff_pairwise_ne, List.pairwise_map]
   exact (List.nodup_iff_pairwise_ne.1 hm.keys).imp fun h e => h (encZ_inj e)
 have hkey : ∀ x ∈ es'.toList, ∃ k ∈ o.map (·.1), x.key = encZ k := fun x hx => by
  have : x.key ∈ (o.map (·.1)).map encZ := by rw [<- hkeys]; exact List.mem_map_of_mem hx
  obtain ⟨k, hk, hq⟩ := List.mem_map.1 this; exact ⟨k, hk, hq.symm⟩
 have hrd : ∀ x ∈ es'.toList, ∀ k, k ∈ o.map (·.1) -> x.key = encZ k -> rd P e (fun _ => some ((.nil : DataW Unit), [])) x = some (.int .i64 k, .nil) := fun x hx k hk hq => by
  have hkk := hwf k hk; obtain ⟨kx, vx, bx⟩ := x; simp only at hq; subst hq; refine Go.WideElems.rd_mk (kl := .int .i64 k) (yv := (.nil, [])) ?_ rfl; simp only [keyOf, hu, mapKey, encZ]; simp; exact hkk
 have hfit : Go.WideElems.Fit P e (fun _ => some ((.nil : DataW Unit), [])) es' ck := ⟨ω, hst, fun x hx => by
  obtain ⟨k, hk, hq⟩ := hkey x hx
  exact ⟨_, hrd x hx k hk hq⟩⟩
 have hown : w.ownsMap P e (fun _ => some ((.nil : DataW Unit), [])) lm.blk es'.size (.map ((es'.toList.map (rg P e (fun _ => some (.nil, [])))).foldr DataW.insert [])) := ⟨es', ck, hbm, hfit, Yd, rfl⟩
 have hsize : Maps.size (.map ((es'.toList.map (rg P e (fun _ => some ((.nil : DataW Unit), [])))).foldr DataW.insert []) : DataW Unit) = es'.size := by
  rw [Maps.size_eq, length_sorted]; simp
 have hlt : lb.blk < w.heap.size := (Array.getElem?_eq_some_iff.1 k3).1; have hcall := hS lb.blk lm.blk _ _ _ w hlt hcell hown (by rw [hsize]; omega) (by rw [hsize]; omega); rw [k8]
 refine hcall.mono fun en w' ⟨v, ss, hen, hperm, hrow, hnil, hbel⟩ => ?_
 subst hen
 have hpk : (intKeys (.map ((es'.toList.map (rg P e (fun _ => some ((.nil : DataW Unit), [])))).foldr DataW.insert []) : DataW Unit)).Perm (o.map (·.1)) := by
  refine ((Go.WideShapes.sorted_perm _).map _).trans ?_
  have : (es'.toList.map (rg P e (fun _ => some ((.nil : DataW Unit), [])))).map (fun p => Go.intOf p.1) = o.map (·.1) := by
   rw [List.map_map]
   have h2 : es'.toList.map ((fun p : Lit × DataW Unit => Go.intOf p.1) ∘ rg P e (fun _ => some ((.nil : DataW Unit), []))) = (es'.toList.map (·.key)).map (fun v => match v with | .int _ n => n | _ => 0) := by
    rw [List.map_map]
    refine List.map_congr_left fun x hx => ?_
    obtain ⟨k, hk, hq⟩ := hkey x hx; simp only [Function.comp, Go.WideElems.rg_of (hrd x hx k hk hq), hq, Go.intOf, encZ]
   rw [h2, hkeys, List.map_map]; exact (List.map_congr_left fun x _ => by simp [encZ]).trans (List.map_id _)
  rw [this]
 have hsort : ss.mergeSort (fun x y => decide (x <= y)) = EF' o := by
  have h1 : ss.mergeSort (fun x y => decide (x <= y)) = (o.map (·.1)).mergeSort Go.leI := mergeSort_of_perm_i (hperm.trans hpk); rw [h1]
  have he : leZ = Go.leI := by funext a b; exact leZ_eq a b
  have tr : ∀ a b c : Int, Go.leI a b = true -> Go.leI b c = true -> Go.leI a c = true := fun a b c h1 h2 => by simp only [Go.leI, decide_eq_true_eq] at *; exact Int.le_trans h1 h2
  have to : ∀ a b : Int, (Go.leI a b || Go.leI b a) = true := fun a b => by simp only [Go.leI, Bool.or_eq_true, decide_eq_true_eq]; exact Int.le_total a b
  rw [EF', he]; refine List.Perm.eq_of_pairwise (le := fun a b => Go.leI a b = true) (fun a b _ _ h1 h2 => ?_) (List.pairwise_mergeSort tr to _) (KE' tr to _) ((List.mergeSort_perm _ Go.leI).trans (JV' _).symm); simp only [Go.leI, decide_eq_true_eq] at h1 h2; exact Int.le_antisymm h1 h2
 rw [hsort] at hrow
 have hlen : ss.length = o.length := by rw [<- D9' o, <- hsort]; simp
 rw [hlen] at hrow; refine ⟨v, rfl, hrow, ?_, hbel⟩; rw [hnil, <- List.length_eq_zero_iff, hlen, List.length_eq_zero_iff]
theorem MI.nil0 (ck : Nat) : MI ([] : IMap Int) ck := ⟨List.nodup_nil, List.nodup_nil, fun e he => by cases he⟩
theorem QY' (hu : P.underlying e = some (.int .i64)) (hS : H6' P fS g e) {ck : Nat} : Tri P W fS [.func (.func g) [] [.ptr 0 0]] (oSo tb [] ck) (.v (.slice none 0 0)) (oSo tb [] ck) := by
 intro W0 F N w vargs hF hNB r ha; refine (IZ' hu hS (MI.nil0 ck) (by show 0 * 8 <= _; omega) (fun k hk => by cases hk) r ha).mono ?_; rintro en w' ⟨v, rfl, hrow, hnil, hb⟩; rw [hnil.2 rfl]
 exact ⟨_, rfl, N, fun _ _ => rfl, hNB, r.below hb, AA'.2 ⟨VR_v.2 rfl, AT'⟩⟩
theorem QX' (hu : P.underlying e = some (.int .i64)) (hS : H6' P fS g e) (hm : MI o ck) (hb : o.length * 8 <= 140737488355328) (hwf : ∀ k ∈ o.map (·.1), (Lit.int .i64 k).wf = true) (hne : o ≠ []) :
  Tri P W fS [.func (.func g) [] [.ptr 0 0]] (oSo tb o ck) (.slice 1000 0 o.length 1 (.lo o.length)) (oSo tb o ck ++ [(1000, .cells (vmap ((EF' o).map encZ)) (2 * e))]) := by
 intro W0 F N w vargs hF hNB r ha; refine (IZ' hu hS hm hb hwf r ha).mono ?_; rintro en w' ⟨v, rfl, hrow, hnil, hb⟩; have hN0 : N 1000 = none := hNB 1000 (Yd) rfl; have r' := r.below hb; obtain ⟨_, hv | ⟨g, cap, cur, rfl, hg, hc, h1, h2, h3, h4⟩⟩ := hrow
 ·have hx := hv.2; rw [List.length_eq_zero_iff] at hx; exact absurd hx hne
 ·have hle := A3'.put_le (l := ⟨g, 0, cur.size⟩) hN0; rw [Nat.mul_one] at h3 h4
  have key : Rep W0 (N.put 1000 ⟨g, 0, cur.size⟩) F (Eng.T.set Eng.T.depth (AN' (oSo tb o ck)) 1000 (.leaf (.cells (vmap ((EF' o).map encZ)) (2 * e)))) w' := by
   refine r.new (n := 1000) δ hle hb ⟨fun b => b = g, ?_, fun b hb => by subst hb; exact hg⟩
   refine ⟨⟨g, 0, cur.size⟩, cur, (0, 0), A3'.put_same, fun _ => Iff.rfl, (by rw [Nat.mul_div_cancel_left _ (by decide : 0 < 2)]; exact hc), by simp, by simp only [vmap, List.length_map, D9']; omega, .inl rfl, ?_, fun _ => ⟨rfl, rfl⟩⟩
   have : ((cur.toList.drop 0).take (vmap ((EF' o).map encZ)).length) = (EF' o).map encZ := by rw [List.drop_zero]; simp only [vmap, List.length_map, D9']; exact h4
   rw [this]; exact VRs.vmap _
  refine ⟨_, rfl, N.put 1000 ⟨g, 0, cur.size⟩, fun i hi => A3'.put_ne ω, fun i hi hg => ?_, key.lessI (h' := AN' (oSo tb o ck ++ [(1000, .cells (vmap ((EF' o).map encZ)) (2 * e))])) ?_, ?_⟩
  ·have h1 : i ≠ 1000 := fun e => by subst e; cases hg
   rw [A3'.put_ne h1]; exact hNB i hi (by simp only [oSo, getO]; rw [if_neg ω, if_neg ω])
  ·intro i x hi; rw [AG' rfl] at hi; rw [Eng.T.find_set δ, AG' rfl]
   by_cases h1 : i = 1000
   ·subst h1; rw [if_pos rfl]; exact hi
   ·rw [if_neg h1]; simp only [oSo, List.cons_append, List.nil_append, getO, if_neg h1] at hi ⊢; exact hi
  ·refine AA'.2 ⟨?_, AT'⟩; simp only [VR]
   exact ⟨_, 0, cap, A3'.put_same, rfl, .inl rfl, by simp only; omega, by simp only [Cp.fits]; omega, by omega⟩
end
end Go.Proofs.Ytjjjchmkonnpfaa.Eng
