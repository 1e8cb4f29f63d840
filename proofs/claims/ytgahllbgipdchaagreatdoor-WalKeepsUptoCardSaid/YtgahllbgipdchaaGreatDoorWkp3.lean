/- Parts of the proof, merged. -/
import Derived.Test.YtgahllbgipdchaaGreatDoorWkp2
noncomputable section
set_option linter.unusedVariables false
set_option linter.unusedSimpArgs false
set_option maxRecDepth 100000
set_option linter.unusedSectionVars false
namespace Go.Proofs.YtgahllbgipdchaaGreatDoor.Wk
open Go Go.RowKit Eng Kit Tree
open Int renaming ofNat -> o'
open AO renaming cells -> ce'
open AV renaming ptr -> pt'
open Cnd renaming p -> cp'
open List renaming length_append -> la'
open List renaming length_cons -> lc'
variable {W : World} {H0 : LH} {us us' sz sz' : Int} {n p : Nat} {vs : List AV}
noncomputable section
abbrev fAp : Nat := 21
abbrev fPt : Nat := 46
abbrev fFl : Nat := 37
abbrev fDa : Nat := 61
abbrev tDk : TypeId := 2 * 71
abbrev tFi : TypeId := 2 * 74
abbrev tPw : TypeId := 2 * 91
abbrev tLg : TypeId := 2 * 77
def pV (m : Nat) : AV := .slice 1005 0 m 3 (.lo m)
def dkC (PV : AV) (us : Int) : AO := .cells [.map 1001, PV, iv 1099511627776, iv us] tDk
def fiC (p q : Nat) : AO := .cells [sB 1003 p, sB 1004 q] tFi
def mpO (st ck : Nat) : AO := .map [(sv nm1, .ptr 1002 0, st)] ck
def lgC (sz : Int) : AO := .cells [.ptr 0 0, sv nmL, iv 1, iv sz] tLg
def uD (PV : AV) (us : Int) (st ck p q : Nat) (da sa : Bs) (O : AO) (PR : Mem -> Prop) : LH := [(0, dkC PV us), (1001, mpO st ck), (1002, fiC p q), (1003, rB da), (1004, rB sa), (1005, O), (1006, .any (frz PR))]
def kD : List Nat := [0, 1001, 1002, 1003, 1004, 1005, 1006, 2, 4, 1100, 1101, 1102, 1103, 1104, 1105, 1106, 1107, 1108]
def mSt : Nat := 0
def mCk : Nat := 1
def cWm (n : Nat) (w : Bs) : List AV -> Option (AP AV) := mkC (fun _ => .ret ()) (fun _ => True) (fun _ k => k) (fun _ => [.mt]) (fun _ => []) (fun _ => .leaf .ret [.tuple [sB 1000 n, iv 0]] [(1000, rB w)])
def cWo (m n : Nat) (r w : Bs) : List AV -> Option (AP AV) := mkC (fun args => match args with | .slice i _ _ _ _ :: _ => .ret i | _ => .fail "wrap") (fun _ => True) nmW (fun _ => [sB 0 m]) (fun _ => [(0, rB r)]) (fun _ => .leaf .ret [.tuple [sB 1000 n, iv 0]] [(0, rB r), (1000, rB w)])
def hAp (us' sz' : Int) : BK' := AG' [(fFl, 1, 4, hv (sv nmD)), (fFl, 1, 7, hv (sv nm1)), hf' fPt 2 1, hf' fDa 1 2, hf' fDa 3 8, hf' fDa 3 21, hf' fDa 6 1, (fDa, 11, 6, hv (iv us')), ht' fAp 2 1, (fAp, 3, 5, hv (iv sz'))]
def TN' (n : Nat) (w : Bs) : G0' := [(fWp, cWm n w), (fIt, cK [iv 1] (sv nmO)), (fGn, cK [sv nm1] (bv true)), (fCl, cClB n w)]
def TM' (m n : Nat) (r w : Bs) : G0' := [(fWp, cWo m n r w), (fIt, cK [iv 1] (sv nmO)), (fGn, cK [sv nm1] (bv true)), (fCl, cClB n w)]
abbrev h26' (q0 : Int) (q1 : Nat) (q2 : Int) (z : Cnd) : Cnd := ((f' (Wk (b' true) j')).a ((ee' (z' q0)).a ((f' (Wk (z' (IntKind.i64.wrap (q0 + ↑q1))) (z' q2))).a ((fe' true).a z))))
abbrev k27' : Cnd := (ee' (i' 1))
theorem T3' (W : World) (us us' sz sz' : Int) (st ck p q n : Nat) (da sa w : Bs) (O : AO) (PR : Mem -> Prop) (F : HP) : wRun (TN' n w) (hAp us' sz') [] W fAp [.ptr 2 0, .mt] (uD nilS us st ck p q da sa O PR ++ [(2, lgC sz)]) kD F = VT.leaf (i' 0) [some (ce' [AV.map 1001,AV.slice 1103 0 1 3 (Cp.lo 1),i' 1099511627776,z' us'] 142),some (AO.map [(s' nm1,pt' 1002 0,st)] ck),some (ce' [AV.slice 1104 0 (p + n) 1 (Cp.lo (p + n)),AV.slice 1004 0 q 1 (Cp.lo q)] 148),none,some (ce' (rowV encB sa) 10),some O,some (AO.any (frz PR)),some (ce' [pt' 0 0,s' nmL,i' 1,z' sz'] 154),none,some (ce' (AV.rens (sgN (fun k => match k with | 0 => sgN ((fun x k => k) ()) (newL [(1000,rB w)]) 1100 1000 | k => k) [1000] 1101) (rowV encB w)) 10),some (ce' (AV.rens (sgN (fun k => match k with | 0 => sgN ((fun x k => k) ()) (newL [(1000,rB w)]) 1100 1000 | k => k) [1000] 1101) (rowV encB w)) 10),some (ce' [s' nm1,z' ↑p,AV.slice 1101 0 n 1 (Cp.lo n)] 182),some (ce' [s' nm1,z' ↑p,AV.slice 1101 0 n 1 (Cp.lo n)] 182),some (ce' (List.take (p * 1) (List.drop 0 (rowV encB da)) ++ List.take (n * 1) (List.drop 0 (AV.rens (sgN (fun k => match k with | 0 => sgN ((fun x k => k) ()) (newL [(1000,rB w)]) 1100 1000 | k => k) [1000] 1101) (rowV encB w)))) 10),none,none,none,none] 1105 (k27'.a ((((cp' True).a (f' (VW [AV.mt] [AV.mt]))).a ((f' (Wk (b' false) g')).a ((fe' true).a (((ee' (s' nmL)).a ((f' (Wk (s' (nmL ++ ByteArray.mk (Array.mk [46]))) (s' nmD))).a (((cp' True).a (f' (VW [i' 1] [i' 1]))).a ((f' (Wk (s' (nmD ++ nmO)) (s' nm1))).a t')))).a ((((cp' True).a (f' (VW [s' nm1] [s' nm1]))).a ((f' (Wk (b' false) g')).a ((ee' (i' 1099511627776)).a ((ee' (z' us)).a ((wb' (decide (o' 1099511627776 < us)) g').a ((ee' (i' 1099511627776)).a ((ee' (z' us)).a ((wb' (decide (↑n > IntKind.i64.wrap (o' 1099511627776 - us))) g').a ((fe' true).a ((f' (findKey Tryz.prog (envW [(60,cWm n w),(56,cK [i' 1] (s' nmO)),(29,cK [s' nm1] (b' true)),(30,cClB n w)] (hAp us' sz') [] W F) 9 (s' nm1) [(s' nm1,pt' 1002 0,st)] 0 = AP.ret (some (0,pt' 1002 0)))).a ((f' (Wk (b' false) g')).a ((fe' true).a ((fe' true).a (((cp' True).a ((vw' [AV.slice 1100 0 n 1 (Cp.lo n)]).a (f' (OW (ce' (AV.rens (sgN (fun k => k) [1000] 1100) (rowV encB w)) 10) (ce' (AV.rens (fun k => match k with | 0 => sgN ((fun x k => k) ()) (newL [(1000,rB w)]) 1100 1000 | k => k) (rowV encB w)) 10))))).a ((tt'.a (tt'.a (tt'.a (tt'.a (ee' true))))).a ((fe' true).a ((fe' true).a (((p' (n.ble n = true)).a ((p' ((List.take (n * 1) (List.drop 0 (AV.rens (sgN (fun k => match k with | 0 => sgN ((fun x k => k) ()) (newL [(1000,rB w)]) 1100 1000 | k => k) [1000] 1101) (rowV encB w)))).length.beq (n * 1) = true)).a ((p' ((List.take (n * 1) (List.drop 0 (AV.rens (sgN (fun k => match k with | 0 => sgN ((fun x k => k) ()) (newL [(1000,rB w)]) 1100 1000 | k => k) [1000] 1101) (rowV encB w)))).all AV.one = true)).a ((p' (Nat.blt 0 n = true)).a ((p' ((0 + p * 1).ble (rowV encB da).length = true)).a ((p' (((p + n) * 1).ble 140737488355328 = true)).a ((p' ((p + n).ble 9223372036854775807 = true)).a (f' ((List.take (p * 1) (List.drop 0 (rowV encB da))).length.beq (p * 1) = true))))))))).a ((fe' true).a ((ee' (z' us)).a ((f' (Wk (z' (IntKind.i64.wrap (us + ↑n))) (z' us'))).a ((fe' true).a t')))))))))))))))))))))).a t'))))).a (h26' sz n sz' k1'))) := χ
theorem T5' (W : World) (us us' sz sz' : Int) (st ck p q n z : Nat) (da sa w : Bs) (V : List Value) (PR : Mem -> Prop) (F : HP) : wRun (TN' n w) (hAp us' sz') [] W fAp [.ptr 2 0, .mt] (uD (pV z) us st ck p q da sa (.cells (vmap V) tPw) PR ++ [(2, lgC sz)]) kD F = VT.leaf (i' 0) [some (ce' [AV.map 1001,AV.slice 1103 0 (z + 1) 3 (Cp.lo (z + 1)),i' 1099511627776,z' us'] 142),some (AO.map [(s' nm1,pt' 1002 0,st)] ck),some (ce' [AV.slice 1104 0 (p + n) 1 (Cp.lo (p + n)),AV.slice 1004 0 q 1 (Cp.lo q)] 148),none,some (ce' (rowV encB sa) 10),none,some (AO.any (frz PR)),some (ce' [pt' 0 0,s' nmL,i' 1,z' sz'] 154),none,some (ce' (AV.rens (sgN (fun k => match k with | 0 => sgN ((fun x k => k) ()) (newL [(1000,rB w)]) 1100 1000 | k => k) [1000] 1101) (rowV encB w)) 10),some (ce' (AV.rens (sgN (fun k => match k with | 0 => sgN ((fun x k => k) ()) (newL [(1000,rB w)]) 1100 1000 | k => k) [1000] 1101) (rowV encB w)) 10),some (ce' [s' nm1,z' ↑p,AV.slice 1101 0 n 1 (Cp.lo n)] 182),some (ce' (List.take (z * 3) (List.drop 0 (vmap V)) ++ [s' nm1,z' ↑p,AV.slice 1101 0 n 1 (Cp.lo n)]) 182),some (ce' (List.take (p * 1) (List.drop 0 (rowV encB da)) ++ List.take (n * 1) (List.drop 0 (AV.rens (sgN (fun k => match k with | 0 => sgN ((fun x k => k) ()) (newL [(1000,rB w)]) 1100 1000 | k => k) [1000] 1101) (rowV encB w)))) 10),none,none,none,none] 1105 (k27'.a ((((cp' True).a (f' (VW [AV.mt] [AV.mt]))).a ((f' (Wk (b' false) g')).a ((fe' true).a (((ee' (s' nmL)).a ((f' (Wk (s' (nmL ++ ByteArray.mk (Array.mk [46]))) (s' nmD))).a (((cp' True).a (f' (VW [i' 1] [i' 1]))).a ((f' (Wk (s' (nmD ++ nmO)) (s' nm1))).a t')))).a ((((cp' True).a (f' (VW [s' nm1] [s' nm1]))).a ((f' (Wk (b' false) g')).a ((ee' (i' 1099511627776)).a ((ee' (z' us)).a ((wb' (decide (o' 1099511627776 < us)) g').a ((ee' (i' 1099511627776)).a ((ee' (z' us)).a ((wb' (decide (↑n > IntKind.i64.wrap (o' 1099511627776 - us))) g').a ((fe' true).a ((f' (findKey Tryz.prog (envW [(60,cWm n w),(56,cK [i' 1] (s' nmO)),(29,cK [s' nm1] (b' true)),(30,cClB n w)] (hAp us' sz') [] W F) 9 (s' nm1) [(s' nm1,pt' 1002 0,st)] 0 = AP.ret (some (0,pt' 1002 0)))).a ((f' (Wk (b' false) g')).a ((fe' true).a ((fe' true).a (((cp' True).a ((vw' [AV.slice 1100 0 n 1 (Cp.lo n)]).a (f' (OW (ce' (AV.rens (sgN (fun k => k) [1000] 1100) (rowV encB w)) 10) (ce' (AV.rens (fun k => match k with | 0 => sgN ((fun x k => k) ()) (newL [(1000,rB w)]) 1100 1000 | k => k) (rowV encB w)) 10))))).a ((tt'.a (tt'.a (tt'.a (tt'.a ((p' ((0 + z * 3).ble (vmap V).length = true)).a ((p' (((z + 1) * 48).ble 140737488355328 = true)).a ((p' ((z + 1).ble 9223372036854775807 = true)).a (f' ((List.take (z * 3) (List.drop 0 (vmap V))).length.beq (z * 3) = true))))))))).a ((fe' true).a ((fe' true).a (((p' (n.ble n = true)).a ((p' ((List.take (n * 1) (List.drop 0 (AV.rens (sgN (fun k => match k with | 0 => sgN ((fun x k => k) ()) (newL [(1000,rB w)]) 1100 1000 | k => k) [1000] 1101) (rowV encB w)))).length.beq (n * 1) = true)).a ((p' ((List.take (n * 1) (List.drop 0 (AV.rens (sgN (fun k => match k with | 0 => sgN ((fun x k => k) ()) (newL [(1000,rB w)]) 1100 1000 | k => k) [1000] 1101) (rowV encB w)))).all AV.one = true)).a ((p' (Nat.blt 0 n = true)).a ((p' ((0 + p * 1).ble (rowV encB da).length = true)).a ((p' (((p + n) * 1).ble 140737488355328 = true)).a ((p' ((p + n).ble 9223372036854775807 = true)).a (f' ((List.take (p * 1) (List.drop 0 (rowV encB da))).length.beq (p * 1) = true))))))))).a ((fe' true).a ((ee' (z' us)).a ((f' (Wk (z' (IntKind.i64.wrap (us + ↑n))) (z' us'))).a ((fe' true).a t')))))))))))))))))))))).a t'))))).a (h26' sz n sz' k1'))) := χ
theorem T2' (W : World) (us us' sz sz' : Int) (st ck p q n m : Nat) (da sa r w : Bs) (O : AO) (PR : Mem -> Prop) (F : HP) : wRun (TM' m n r w) (hAp us' sz') [] W fAp [.ptr 2 0, sB 4 m] (uD nilS us st ck p q da sa O PR ++ [(2, lgC sz), (4, rB r)]) kD F = VT.leaf (i' 0) [some (ce' [AV.map 1001,AV.slice 1103 0 1 3 (Cp.lo 1),i' 1099511627776,z' us'] 142),some (AO.map [(s' nm1,pt' 1002 0,st)] ck),some (ce' [AV.slice 1104 0 (p + n) 1 (Cp.lo (p + n)),AV.slice 1004 0 q 1 (Cp.lo q)] 148),none,some (ce' (rowV encB sa) 10),some O,some (AO.any (frz PR)),some (ce' [pt' 0 0,s' nmL,i' 1,z' sz'] 154),some (ce' (AV.rens (sgN (nmW 4) [1000] 1100) (rowV encB r)) 10),some (ce' (AV.rens (sgN (fun k => match k with | 0 => sgN (nmW 4) (newL [(0,rB r),(1000,rB w)]) 1100 1000 | k => k) [1000] 1101) (rowV encB w)) 10),some (ce' (AV.rens (sgN (fun k => match k with | 0 => sgN (nmW 4) (newL [(0,rB r),(1000,rB w)]) 1100 1000 | k => k) [1000] 1101) (rowV encB w)) 10),some (ce' [s' nm1,z' ↑p,AV.slice 1101 0 n 1 (Cp.lo n)] 182),some (ce' [s' nm1,z' ↑p,AV.slice 1101 0 n 1 (Cp.lo n)] 182),some (ce' (List.take (p * 1) (List.drop 0 (rowV encB da)) ++ List.take (n * 1) (List.drop 0 (AV.rens (sgN (fun k => match k with | 0 => sgN (nmW 4) (newL [(0,rB r),(1000,rB w)]) 1100 1000 | k => k) [1000] 1101) (rowV encB w)))) 10),none,none,none,none] 1105 (k27'.a ((((cp' True).a ((vw' [AV.slice 4 0 m 1 (Cp.lo m)]).a (f' (OW (ce' (rowV encB r) 10) (ce' (AV.rens (nmW 4) (rowV encB r)) 10))))).a ((f' (Wk (b' false) g')).a ((fe' true).a (((ee' (s' nmL)).a ((f' (Wk (s' (nmL ++ ByteArray.mk (Array.mk [46]))) (s' nmD))).a (((cp' True).a (f' (VW [i' 1] [i' 1]))).a ((f' (Wk (s' (nmD ++ nmO)) (s' nm1))).a t')))).a ((((cp' True).a (f' (VW [s' nm1] [s' nm1]))).a ((f' (Wk (b' false) g')).a ((ee' (i' 1099511627776)).a ((ee' (z' us)).a ((wb' (decide (o' 1099511627776 < us)) g').a ((ee' (i' 1099511627776)).a ((ee' (z' us)).a ((wb' (decide (↑n > IntKind.i64.wrap (o' 1099511627776 - us))) g').a ((fe' true).a ((f' (findKey Tryz.prog (envW [(60,cWo m n r w),(56,cK [i' 1] (s' nmO)),(29,cK [s' nm1] (b' true)),(30,cClB n w)] (hAp us' sz') [] W F) 9 (s' nm1) [(s' nm1,pt' 1002 0,st)] 0 = AP.ret (some (0,pt' 1002 0)))).a ((f' (Wk (b' false) g')).a ((fe' true).a ((fe' true).a (((cp' True).a ((vw' [AV.slice 1100 0 n 1 (Cp.lo n)]).a (f' (OW (ce' (AV.rens (sgN (nmW 4) [1000] 1100) (rowV encB w)) 10) (ce' (AV.rens (fun k => match k with | 0 => sgN (nmW 4) (newL [(0,rB r),(1000,rB w)]) 1100 1000 | k => k) (rowV encB w)) 10))))).a ((tt'.a (tt'.a (tt'.a (tt'.a (ee' true))))).a ((fe' true).a ((fe' true).a (((p' (n.ble n = true)).a ((p' ((List.take (n * 1) (List.drop 0 (AV.rens (sgN (fun k => match k with | 0 => sgN (nmW 4) (newL [(0,rB r),(1000,rB w)]) 1100 1000 | k => k) [1000] 1101) (rowV encB w)))).length.beq (n * 1) = true)).a ((p' ((List.take (n * 1) (List.drop 0 (AV.rens (sgN (fun k => match k with | 0 => sgN (nmW 4) (newL [(0,rB r),(1000,rB w)]) 1100 1000 | k => k) [1000] 1101) (rowV encB w)))).all AV.one = true)).a ((p' (Nat.blt 0 n = true)).a ((p' ((0 + p * 1).ble (rowV encB da).length = true)).a ((p' (((p + n) * 1).ble 140737488355328 = true)).a ((p' ((p + n).ble 9223372036854775807 = true)).a (f' ((List.take (p * 1) (List.drop 0 (rowV encB da))).length.beq (p * 1) = true))))))))).a ((fe' true).a ((ee' (z' us)).a ((f' (Wk (z' (IntKind.i64.wrap (us + ↑n))) (z' us'))).a ((fe' true).a t')))))))))))))))))))))).a t'))))).a (h26' sz n sz' k1'))) := χ
theorem T4' (W : World) (us us' sz sz' : Int) (st ck p q n m z : Nat) (da sa r w : Bs) (V : List Value) (PR : Mem -> Prop) (F : HP) : wRun (TM' m n r w) (hAp us' sz') [] W fAp [.ptr 2 0, sB 4 m] (uD (pV z) us st ck p q da sa (.cells (vmap V) tPw) PR ++ [(2, lgC sz), (4, rB r)]) kD F = VT.leaf (i' 0) [some (ce' [AV.map 1001,AV.slice 1103 0 (z + 1) 3 (Cp.lo (z + 1)),i' 1099511627776,z' us'] 142),some (AO.map [(s' nm1,pt' 1002 0,st)] ck),some (ce' [AV.slice 1104 0 (p + n) 1 (Cp.lo (p + n)),AV.slice 1004 0 q 1 (Cp.lo q)] 148),none,some (ce' (rowV encB sa) 10),none,some (AO.any (frz PR)),some (ce' [pt' 0 0,s' nmL,i' 1,z' sz'] 154),some (ce' (AV.rens (sgN (nmW 4) [1000] 1100) (rowV encB r)) 10),some (ce' (AV.rens (sgN (fun k => match k with | 0 => sgN (nmW 4) (newL [(0,rB r),(1000,rB w)]) 1100 1000 | k => k) [1000] 1101) (rowV encB w)) 10),some (ce' (AV.rens (sgN (fun k => match k with | 0 => sgN (nmW 4) (newL [(0,rB r),(1000,rB w)]) 1100 1000 | k => k) [1000] 1101) (rowV encB w)) 10),some (ce' [s' nm1,z' ↑p,AV.slice 1101 0 n 1 (Cp.lo n)] 182),some (ce' (List.take (z * 3) (List.drop 0 (vmap V)) ++ [s' nm1,z' ↑p,AV.slice 1101 0 n 1 (Cp.lo n)]) 182),some (ce' (List.take (p * 1) (List.drop 0 (rowV encB da)) ++ List.take (n * 1) (List.drop 0 (AV.rens (sgN (fun k => match k with | 0 => sgN (nmW 4) (newL [(0,rB r),(1000,rB w)]) 1100 1000 | k => k) [1000] 1101) (rowV encB w)))) 10),none,none,none,none] 1105 (k27'.a ((((cp' True).a ((vw' [AV.slice 4 0 m 1 (Cp.lo m)]).a (f' (OW (ce' (rowV encB r) 10) (ce' (AV.rens (nmW 4) (rowV encB r)) 10))))).a ((f' (Wk (b' false) g')).a ((fe' true).a (((ee' (s' nmL)).a ((f' (Wk (s' (nmL ++ ByteArray.mk (Array.mk [46]))) (s' nmD))).a (((cp' True).a (f' (VW [i' 1] [i' 1]))).a ((f' (Wk (s' (nmD ++ nmO)) (s' nm1))).a t')))).a ((((cp' True).a (f' (VW [s' nm1] [s' nm1]))).a ((f' (Wk (b' false) g')).a ((ee' (i' 1099511627776)).a ((ee' (z' us)).a ((wb' (decide (o' 1099511627776 < us)) g').a ((ee' (i' 1099511627776)).a ((ee' (z' us)).a ((wb' (decide (↑n > IntKind.i64.wrap (o' 1099511627776 - us))) g').a ((fe' true).a ((f' (findKey Tryz.prog (envW [(60,cWo m n r w),(56,cK [i' 1] (s' nmO)),(29,cK [s' nm1] (b' true)),(30,cClB n w)] (hAp us' sz') [] W F) 9 (s' nm1) [(s' nm1,pt' 1002 0,st)] 0 = AP.ret (some (0,pt' 1002 0)))).a ((f' (Wk (b' false) g')).a ((fe' true).a ((fe' true).a (((cp' True).a ((vw' [AV.slice 1100 0 n 1 (Cp.lo n)]).a (f' (OW (ce' (AV.rens (sgN (nmW 4) [1000] 1100) (rowV encB w)) 10) (ce' (AV.rens (fun k => match k with | 0 => sgN (nmW 4) (newL [(0,rB r),(1000,rB w)]) 1100 1000 | k => k) (rowV encB w)) 10))))).a ((tt'.a (tt'.a (tt'.a (tt'.a ((p' ((0 + z * 3).ble (vmap V).length = true)).a ((p' (((z + 1) * 48).ble 140737488355328 = true)).a ((p' ((z + 1).ble 9223372036854775807 = true)).a (f' ((List.take (z * 3) (List.drop 0 (vmap V))).length.beq (z * 3) = true))))))))).a ((fe' true).a ((fe' true).a (((p' (n.ble n = true)).a ((p' ((List.take (n * 1) (List.drop 0 (AV.rens (sgN (fun k => match k with | 0 => sgN (nmW 4) (newL [(0,rB r),(1000,rB w)]) 1100 1000 | k => k) [1000] 1101) (rowV encB w)))).length.beq (n * 1) = true)).a ((p' ((List.take (n * 1) (List.drop 0 (AV.rens (sgN (fun k => match k with | 0 => sgN (nmW 4) (newL [(0,rB r),(1000,rB w)]) 1100 1000 | k => k) [1000] 1101) (rowV encB w)))).all AV.one = true)).a ((p' (Nat.blt 0 n = true)).a ((p' ((0 + p * 1).ble (rowV encB da).length = true)).a ((p' (((p + n) * 1).ble 140737488355328 = true)).a ((p' ((p + n).ble 9223372036854775807 = true)).a (f' ((List.take (p * 1) (List.drop 0 (rowV encB da))).length.beq (p * 1) = true))))))))).a ((fe' true).a ((ee' (z' us)).a ((f' (Wk (z' (IntKind.i64.wrap (us + ↑n))) (z' us'))).a ((fe' true).a t')))))))))))))))))))))).a t'))))).a (h26' sz n sz' k1'))) := χ
end
def lenR (xs : List Rs) : Nat := (xs.map (·.d.length)).sum
def pwV : Nat -> List Rs -> List Value
 | _, [] => []
 | o, x :: xs => .string nm1 :: .int .i64 (o' o) :: x.val :: pwV (o + x.d.length) xs
theorem NC' : ∀ (xs : List Rs) (o : Nat), (pwV o xs).length = xs.length * 3
 | [], o => rfl
 | x :: xs, o => by simp only [pwV, lc', NC' xs]; omega
theorem EG' (x : Rs) (xs : List Rs) : lenR (x :: xs) = x.d.length + lenR xs := by simp [lenR]
theorem OO' : ∀ (xs : List Rs) (o : Nat) (x : Rs), pwV o (xs ++ [x]) = pwV o xs ++ [.string nm1, .int .i64 (o' (o + lenR xs)), x.val]
 | [], o, x => by simp [pwV, lenR]
 | y :: xs, o, x => by simp only [List.cons_append, pwV, OO' xs, EG', Nat.add_assoc]
theorem GH' (a b : List Bs) : cat (a ++ b) = cat a ++ cat b := by simp [cat]
theorem IE' : ∀ (xs : List Rs) (rs : List Bs), xs.map (·.d) = rs.map AR' -> lenR xs = (cat rs).length
 | [], [], _ => rfl
 | x :: xs, r :: rs, h => by
  simp only [List.map_cons, List.cons.injEq] at h; rw [EG', IE' xs rs h.2, DX', la', h.1]
 | [], r :: rs, h => by cases h
 | x :: xs, [], h => by cases h
def xP : List Rs -> AV
 | [] => nilS
 | x :: r => pV (r.length + 1)
def oP (o : Nat) : List Rs -> AO
 | [] => dumZ
 | x :: r => .cells (vmap (pwV o (x :: r))) tPw
def dkL (S rs : List Bs) (xs : List Rs) : LH := uD (xP xs) (o' (cat (S ++ rs)).length) mSt mCk (cat (S ++ rs)).length (cat S).length (cat (S ++ rs)) (cat S) (oP (cat S).length xs) (PB xs)
def dO (S rs : List Bs) : AO := .own .nothing (exHP (fun xs : List Rs => xs.map (·.d) = rs.map AR') (dkL S rs))
theorem RI' (H0 : LH) (hd : (([0, 1001, 1002, 1003, 1004, 1005, 1006] : List Nat).all fun i => (getO H0 i).isNone) = true) (hl : AA' 1100 H0 = true) (S rs : List Bs) (xs : List Rs) : Eng.ownL H0 (dkL S rs xs) = true := by
 simp only [List.all_cons, List.all_nil, Bool.and_true, Bool.and_eq_true] at hd; simp only [Eng.ownL, dkL, uD, List.all_cons, List.all_nil, hd, hl, Bool.and_true]; rfl
theorem UJ' (S rs : List Bs) (xs : List Rs) : ∀ x ∈ dkL S rs xs, x.2.cl (kH (dkL S rs xs)) := by
 cases xs with
 | nil => exact A0' ⟨rfl, Ye, Ye, Ye, Ye⟩ (A0' ⟨Ye, rfl, Ye⟩ (A0' ⟨rfl, rfl, Ye⟩ (A0' (AS' _ _) (A0' (AS' _ _) (A0' Ye (A0' Ye A2'))))))
 | cons x xs => exact A0' ⟨rfl, rfl, Ye, Ye, Ye⟩ (A0' ⟨Ye, rfl, Ye⟩ (A0' ⟨rfl, rfl, Ye⟩ (A0' (AS' _ _) (A0' (AS' _ _) (A0' (B1' _ _) (A0' Ye A2'))))))
theorem P0' (S rs : List Bs) (xs : List Rs) : ∃ cs e, getO (dkL S rs xs) 0 = some (.cells cs e) /\ e % 2 = 0 := ⟨_, _, rfl, by kernel_rfl⟩
theorem OR' {f : FuncId} {A : List AV} {S rs : List Bs} {H' : LH} {v : AV} (hd : (([0, 1001, 1002, 1003, 1004, 1005, 1006] : List Nat).all fun i => (getO H0 i).isNone) = true) (hl : AA' 1100 H0 = true)
  (h : ∀ xs : List Rs, xs.map (·.d) = rs.map AR' -> Tri Θ W f A (dkL S rs xs ++ H0) v H') : Tri Θ W f A ((0, dO S rs) :: H0) v H' :=
 Tri.open (R := fun xs : List Rs => xs.map (·.d) = rs.map AR') (L := dkL S rs) (H0 := H0) (fun xs => RI' H0 hd hl S rs xs) (fun xs => UJ' S rs xs) (fun xs => by obtain ⟨cs, e, h, _⟩ := P0' S rs xs; exact ⟨_, h⟩) h
theorem U3' {S rs : List Bs} (xs : List Rs) (hx : xs.map (·.d) = rs.map AR') (hd : (([0, 1001, 1002, 1003, 1004, 1005, 1006] : List Nat).all fun i => (getO H0 i).isNone) = true) (hl : AA' 1100 H0 = true)
  (hv : AV.cls (fun i => Nat.blt i 1000 || (getO H0 i).isSome) vs) (ho : ∀ x ∈ H0, x.2.cl (fun i => Nat.blt i 1000 || (getO H0 i).isSome)) : Goes vs (dkL S rs xs ++ H0) vs ((0, dO S rs) :: H0) :=
 Goes.shut (R := fun xs : List Rs => xs.map (·.d) = rs.map AR') (L := dkL S rs) xs hx (RI' H0 hd hl S rs xs) (P0' S rs xs) hv ho
theorem LC' (w : Bs) (σ : Nat -> Nat) : (List.take (w.length * 1) (List.drop 0 (AV.rens σ (rowV encB w)))).all AV.one = true := by
 rw [A4', List.drop_zero, List.take_of_length_le (by rw [BA', Nat.mul_one]; exact Yd)]; simp [rowV, vmap, AV.one, encB]
 exact fun x _ => rfl
structure ApK (us us' sz sz' : Int) (da w : Bs) (n p : Nat) : Prop where
 hn : n = w.length
 hp : p = da.length
 f1 : decide (o' 1099511627776 < us) = false
 f2 : decide ((n : Int) > IntKind.i64.wrap (o' 1099511627776 - us)) = false
 us : IntKind.i64.wrap (us + (n : Int)) = us'
 sz : IntKind.i64.wrap (sz + (n : Int)) = sz'
 n1 : 0 < n
 n2 : (0 + p * 1).ble (rowV encB da).length = true
 n3 : ((p + n) * 1).ble 140737488355328 = true
 n4 : (p + n).ble 9223372036854775807 = true
 d1 : (List.take (p * 1) (List.drop 0 (rowV encB da))).length.beq (p * 1) = true
theorem UV' (xs : List Rs) (x : Rs) : xP (xs ++ [x]) = pV (xs.length + 1) := by
 cases xs with
 | nil => rfl
 | cons y xs => show pV ((xs ++ [x]).length + 1) = _; rw [la']; rfl
theorem WD' (o : Nat) (xs : List Rs) (x : Rs) : oP o (xs ++ [x]) = .cells (vmap (pwV o (xs ++ [x]))) tPw := by
 cases xs with
 | nil => rfl
 | cons y xs => rfl
theorem RA' {S rs : List Bs} {r : Bs} (xs : List Rs) (hx : xs.map (·.d) = rs.map AR') (hr : r.length <= most) (hd : (([0, 1001, 1002, 1003, 1004, 1005, 1006, 1007] : List Nat).all fun i => (getO H0 i).isNone) = true) (hl : AA' 1100 H0 = true)
  (hv : ∀ K, AV.cls K vs) (ho : ∀ K : Nat -> Bool, K 0 = true -> ∀ x ∈ H0, x.2.cl K) :
  Goes vs (uD (pV (xs.length + 1)) (o' (cat (S ++ (rs ++ [r]))).length) mSt mCk (cat (S ++ (rs ++ [r]))).length (cat S).length (cat (S ++ (rs ++ [r]))) (cat S) (.cells (vmap (pwV (cat S).length xs) ++ [sv nm1, iv (o' ((cat S).length + lenR xs)), sB 1007 (AR' r).length]) tPw) (PB xs) ++ ((1007, rB (AR' r)) :: H0)) vs ((0, dO S (rs ++ [r])) :: H0) := by
 intro W0 F N ys w hst; have hd' := hd; simp only [List.all_cons, List.all_nil, Bool.and_true, Bool.and_eq_true, Option.isNone_iff_eq_none] at hd'; obtain ⟨n0, n1, n2, n3, n4, n5, n6, n7⟩ := hd'; have hlen : (AR' r).length = 8 + r.length := B3' r; have hr' : r.length <= 1048576 := hr
 have hb : (AR' r).length <= big := by rw [hlen]; show _ <= 140737488351232; omega
 have hp : 0 < (AR' r).length := ω
 obtain ⟨c, hc⟩ := U2' (by
   simp only [AA', uD, List.cons_append, List.nil_append, List.all_cons] at hl ⊢
   rw [hl]; rfl) hst 1005 1006 [1007] δ δ δ (a := vmap (pwV (cat S).length xs)) (b := [sv nm1, iv (o' ((cat S).length + lenR xs)), sB 1007 (AR' r).length]) (e := tPw) rfl rfl (fun N1 D w h => h.lt)
  (fun c C => PB xs C /\ ∃ x : Rs, x.d = AR' r /\ c = [.string nm1, .int .i64 (o' ((cat S).length + lenR xs)), x.val] /\ At1 C x) (fun N1 D hD yb hy => by
   have hP : PB xs (GG' (D 1006) w) := (hD 1006 _ rfl).1; obtain ⟨y1, r1, a1, q1, rfl⟩ := hy; obtain ⟨y2, r2, a2, q2, rfl⟩ := q1; obtain ⟨y, r0, a3, q3, rfl⟩ := q2; have q3 : r0 = [] := q3; subst q3; have a1 : y1 = .string nm1 := VR_v.1 a1; have a2 : y2 = .int .i64 (o' ((cat S).length + lenR xs)) := VR_v.1 a2; subst a1 a2; obtain ⟨a, cp, rfl, hB, hC⟩ := U4' hb hp (hD 1007 _ rfl) a3
   exact ⟨[.string nm1, .int .i64 (o' ((cat S).length + lenR xs)), .slice (some a) (AR' r).length cp], rfl, VRs.vmap _, hP.mono (ER' fun b hb => .inl hb), ⟨AR' r, some a, cp⟩, rfl, rfl, ⟨hB.mono (ER' fun b hb => .inr ⟨1007, List.mem_cons_self, ⟨_, rfl⟩, hb⟩), hC⟩⟩)
 obtain ⟨⟨C0, _, x, hxd, rfl, _⟩, hc⟩ := hc
 have hfin := hc (dkL S (rs ++ [r]) (xs ++ [x]) ++ H0) (PB (xs ++ [x])) (by
   simp only [AA', dkL, uD, List.cons_append, List.nil_append, List.all_cons] at hl ⊢
   rw [hl]; rfl) (by
   show some (oP (cat S).length (xs ++ [x])) = _
   rw [WD', OO', DL']) rfl (fun C ⟨h1, x', h2, h3, h4⟩ => by
   have e : x' = x := by
    obtain ⟨d1, a1, c1⟩ := x; obtain ⟨d2, a2, c2⟩ := x'; simp only at hxd h2; subst hxd h2; simp only [Rs.val, List.cons.injEq, Value.slice.injEq, and_true, true_and] at h3; obtain ⟨rfl, rfl⟩ := h3; rfl
   rw [e] at h4
   exact h1.snoc h4) (fun n o h1 h2 h3 => by
   simp only [dkL, uD, List.cons_append, List.nil_append, getO, if_neg h1, if_neg h2, UV'] at h3 ⊢
   by_cases e7 : n = 1007
   ·subst e7
    simp only [show ¬ (1007 = 0) by decide, show ¬ (1007 = 1001) by decide, show ¬ (1007 = 1002) by decide, show ¬ (1007 = 1003) by decide, show ¬ (1007 = 1004) by decide, if_false] at h3
    rw [n7] at h3; cases h3
   ·exact ⟨by simp [e7], by simp only [if_neg e7]; exact h3⟩) (hv _) (by
   have hK0 : (fun n => Nat.blt n 1000 || (getO (dkL S (rs ++ [r]) (xs ++ [x]) ++ H0) n).isSome) 0 = true := rfl
   intro y hy
   rcases List.mem_append.1 hy with hy | hy
   ·have hk : ∀ i, kH (dkL S (rs ++ [r]) (xs ++ [x])) i = true -> (fun n => Nat.blt n 1000 || (getO (dkL S (rs ++ [r]) (xs ++ [x]) ++ H0) n).isSome) i = true := fun i hi => by
     simp only [kH] at hi; obtain ⟨o, ho⟩ := Option.isSome_iff_exists.1 hi; simp only [BE', ho, Option.isSome_some, Bool.or_true]
    exact AO.cl_mono hk (UJ' S (rs ++ [r]) (xs ++ [x]) y hy)
   ·exact ho _ hK0 y hy)
 exact U3' (xs ++ [x]) (by rw [List.map_append, List.map_append, hx]; simp only [List.map_cons, List.map_nil, hxd]) (by
   simp only [List.all_cons, List.all_nil, Bool.and_true, Bool.and_eq_true, n0, n1, n2, n3, n4, n5, n6]; simp) hl (hv _) (ho _ rfl) W0 F N ys w hfin
theorem cWo_ok (hN : LN W) (r : Bs) (hr : r.length <= most) (hp : 0 < r.length) (F : HP) (hF : AL' W F) : C1OK Θ F fWp (cWo r.length (AR' r).length r (AR' r)) := by
 have hb : r.length <= big := by have : r.length <= 1048576 := hr; show _ <= 140737488351232; omega
 exact BD' hF (fun _ => .tuple [sB 1000 (AR' r).length, iv 0]) (fun args => by split <;> first | exact RO.ret _ | exact RO.fail _) (fun _ => rfl) (fun _ _ => QT' W hN (pre := []) (H' := [(1000, rB (AR' r))]) hb hp rfl (fun i o h => by
  simp only [getO] at h ⊢
  by_cases e : i = 1000
  ·subst e; exact ⟨δ, by simp⟩
  ·rw [if_neg e] at h; cases h) fun W' hN' oa c h _ => K8' W' hN' oa c r h hr) fun _ => ⟨rfl, rfl, ⟨rfl, Ye⟩, A0' (AS' _ _) A2', ⟨⟨rfl, Ye, Ye⟩, Ye⟩, A0' (AS' _ _) (A0' (AS' _ _) A2')⟩
theorem cWm_ok (hN : LN W) (F : HP) (hF : AL' W F) : C1OK Θ F fWp (cWm (AR' []).length (AR' [])) := by
 refine BD' hF (fun _ => .tuple [sB 1000 (AR' []).length, iv 0]) (fun _ => RO.ret _) (fun _ => rfl) (fun _ _ => ?_) fun _ => ⟨rfl, rfl, ⟨Ye, Ye⟩, A2', ⟨⟨rfl, Ye, Ye⟩, Ye⟩, A0' (AS' _ _) A2'⟩
 refine N6' (H := []) (H' := [(1000, rB (AR' []))]) rfl rfl (fun i o h => by
  simp only [getO] at h ⊢
  by_cases e : i = 1000
  ·subst e; exact ⟨δ, Ye⟩
  ·rw [if_neg e] at h; cases h) fun W0 F N w vargs hF hNB r ha => ?_
 obtain ⟨y, r1, q1, q2, e⟩ := ha; have q2 : r1 = [] := q2; subst q2
 obtain ⟨a, rfl⟩ : ∃ a, y = .slice a 0 0 := by simpa only [VR] using q1
 have r0 := r; obtain ⟨_, _, _, D0, _, hD0, _, _⟩ := r0; refine ⟨_, e, ?_⟩
 exact K8' w (hN.mono (DV' (hF D0 w hD0))) a 0 [] ⟨Nat.zero_le _, fun i b hb => by simp at hb⟩ (Nat.zero_le _)
theorem UU' {da w : Bs} (h0 : 0 < w.length) (hz : da.length + w.length <= 1099511627776) : ApK (o' da.length) (o' (da.length + w.length)) (o' da.length) (o' (da.length + w.length)) da w w.length da.length := by
 have hrl : (rowV encB da).length = da.length := BA' da; refine ⟨rfl, rfl, decide_eq_false (by simp only [Z0]; omega), decide_eq_false ?_, ?_, ?_, ?_, AM' (by rw [hrl]; omega), AM' ω, AM' ω, ?_⟩
 ·rw [IntWalk.i64_in _ (by simp only [Z0]; omega)]; simp only [Z0]; omega
 ·rw [IntWalk.i64_in _ (by simp only [Z0]; omega)]; simp only [Z0]; omega
 ·rw [IntWalk.i64_in _ (by simp only [Z0]; omega)]; simp only [Z0]; omega
 ·exact h0
 ·rw [List.drop_zero, List.take_of_length_le (by rw [hrl, Nat.mul_one]; exact Yd), hrl, Nat.mul_one]; exact Nat.beq_refl _
theorem TX' {da w : Bs} (K : ApK us us' sz sz' da w n p) (q : Nat) (sa : Bs) (m : Nat) (r : Bs) (z : Nat) (V : List Value) (hV : V.length = z * 3) (hz : z < 1099511627776) (PR : Mem -> Prop) (hW : ∀ F, AL' W F -> C1OK Θ F fWp (cWo m n r w)) (hcl : ∀ F, C1OK Θ F fCl (cClB n w)) :
  Tri Θ W fAp [.ptr 2 0, sB 4 m] (uD (pV z) us mSt mCk p q da sa (.cells (vmap V) tPw) PR ++ [(2, lgC sz), (4, rB r)]) (iv 0) (uD (pV (z + 1)) us' mSt mCk (p + n) q (da ++ w) sa (.cells (vmap V ++ [sv nm1, iv (o' p), sB 1007 n]) tPw) PR ++ ((1007, rB w) :: [(2, lgC sz'), (4, rB r)])) := by
 have hrow : ∀ σ : Nat -> Nat, List.take (p * 1) (List.drop 0 (rowV encB da)) ++ List.take (n * 1) (List.drop 0 (AV.rens σ (rowV encB w))) = rowV encB (da ++ w) := fun σ => by
  rw [K.hn, K.hp, A4', List.drop_zero, List.drop_zero, List.take_of_length_le (by rw [BA', Nat.mul_one]; exact Yd), List.take_of_length_le (by rw [BA', Nat.mul_one]; exact Yd), BR']
 have w3 : ∀ σ : Nat -> Nat, (List.take (n * 1) (List.drop 0 (AV.rens σ (rowV encB w)))).length.beq (n * 1) = true := fun σ => by
  rw [K.hn, A4', List.drop_zero, List.take_of_length_le (by rw [BA', Nat.mul_one]; exact Yd), BA', Nat.mul_one]; exact Nat.beq_refl _
 have w4 : ∀ σ : Nat -> Nat, (List.take (n * 1) (List.drop 0 (AV.rens σ (rowV encB w)))).all AV.one = true := fun σ => by rw [K.hn]; exact LC' w σ
 have ktk : List.take (z * 3) (List.drop 0 (vmap V)) = vmap V := by rw [List.drop_zero, List.take_of_length_le (by rw [BF', hV]; exact Yd)]
 have z1 : (0 + z * 3).ble (vmap V).length = true := AM' (by rw [BF', hV]; omega); have z2 : ((z + 1) * 48).ble 140737488355328 = true := AM' ω; have z3 : (z + 1).ble 9223372036854775807 = true := AM' ω
 have z4 : (List.take (z * 3) (List.drop 0 (vmap V))).length.beq (z * 3) = true := by rw [ktk, BF', hV]; exact Nat.beq_refl _
 refine AW' (con := TM' m n r w) (hints := hAp us' sz') (lc := []) kD χ (fun F hF => AJ' (hW F hF) (AJ' (GI' (IY' _) (fun K => ⟨Ye, Ye⟩) (fun K => trivial) F) (AJ' (GI' (J3' _) (fun K => ⟨Ye, Ye⟩) (fun K => trivial) F) (C6' (hcl F))))) (fun F _ => noL) fun F => ?_
 refine Yj (T4' W us us' sz sz' mSt mCk p q n m z da sa r w V PR F) ⟨⟨?_, (B6' (vs' := [iv 0]) (H' := [(0, dkC (pV (z + 1)) us'), (1001, mpO mSt mCk), (1002, fiC (p + n) q), (1003, rB (da ++ w)), (1004, rB sa), (1005, (.cells (vmap V ++ [sv nm1, iv (o' p), sB 1007 n]) tPw)), (1006, .any (frz PR)), (1007, rB w), (2, lgC sz'), (4, rB r)]) [(1001, 1001), (1002, 1002), (1003, 1104), (1004, 1004), (1005, 1103), (1006, 1006), (1007, 1101)] χ χ (Yb) ⟨⟨_, rfl, Yc⟩, ⟨_, rfl, Yc⟩, ⟨_, rfl, Yc⟩, ⟨_, rfl, AP' (hrow _) rfl⟩, ⟨_, rfl, AP' rfl rfl⟩, ⟨_, rfl, by rw [ktk]; exact OW.of_eq (by simp only [AO.ren, C9', AK']; rfl)⟩, ⟨_, rfl, Yc⟩, ⟨_, rfl, AP' (A4' _ _) rfl⟩, ⟨_, rfl, Yc⟩, ⟨_, rfl, AP' (A4' _ _) rfl⟩, Ye⟩).fits χ⟩⟩
 exact Cw8'
theorem TV' {da w : Bs} (K : ApK us us' sz sz' da w n p) (q : Nat) (sa : Bs) (m : Nat) (r : Bs) (O : AO) (PR : Mem -> Prop) (hW : ∀ F, AL' W F -> C1OK Θ F fWp (cWo m n r w)) (hcl : ∀ F, C1OK Θ F fCl (cClB n w)) :
  Tri Θ W fAp [.ptr 2 0, sB 4 m] (uD nilS us mSt mCk p q da sa O PR ++ [(2, lgC sz), (4, rB r)]) (iv 0) (uD (pV (0 + 1)) us' mSt mCk (p + n) q (da ++ w) sa (.cells [sv nm1, iv (o' p), sB 1007 n] tPw) PR ++ ((1007, rB w) :: [(2, lgC sz'), (4, rB r)])) := by
 have hrow : ∀ σ : Nat -> Nat, List.take (p * 1) (List.drop 0 (rowV encB da)) ++ List.take (n * 1) (List.drop 0 (AV.rens σ (rowV encB w))) = rowV encB (da ++ w) := fun σ => by
  rw [K.hn, K.hp, A4', List.drop_zero, List.drop_zero, List.take_of_length_le (by rw [BA', Nat.mul_one]; exact Yd), List.take_of_length_le (by rw [BA', Nat.mul_one]; exact Yd), BR']
 have w3 : ∀ σ : Nat -> Nat, (List.take (n * 1) (List.drop 0 (AV.rens σ (rowV encB w)))).length.beq (n * 1) = true := fun σ => by
  rw [K.hn, A4', List.drop_zero, List.take_of_length_le (by rw [BA', Nat.mul_one]; exact Yd), BA', Nat.mul_one]; exact Nat.beq_refl _
 have w4 : ∀ σ : Nat -> Nat, (List.take (n * 1) (List.drop 0 (AV.rens σ (rowV encB w)))).all AV.one = true := fun σ => by rw [K.hn]; exact LC' w σ
 refine AW' (con := TM' m n r w) (hints := hAp us' sz') (lc := []) kD χ (fun F hF => AJ' (hW F hF) (AJ' (GI' (IY' _) (fun K => ⟨Ye, Ye⟩) (fun K => trivial) F) (AJ' (GI' (J3' _) (fun K => ⟨Ye, Ye⟩) (fun K => trivial) F) (C6' (hcl F))))) (fun F _ => noL) fun F => ?_
 refine Yj (T2' W us us' sz sz' mSt mCk p q n m da sa r w O PR F) ⟨⟨?_, (B6' (vs' := [iv 0]) (H' := [(0, dkC (pV (0 + 1)) us'), (1001, mpO mSt mCk), (1002, fiC (p + n) q), (1003, rB (da ++ w)), (1004, rB sa), (1005, (.cells [sv nm1, iv (o' p), sB 1007 n] tPw)), (1006, .any (frz PR)), (1007, rB w), (2, lgC sz'), (4, rB r)]) [(1001, 1001), (1002, 1002), (1003, 1104), (1004, 1004), (1005, 1103), (1006, 1006), (1007, 1101)] χ χ (Yb) ⟨⟨_, rfl, Yc⟩, ⟨_, rfl, Yc⟩, ⟨_, rfl, Yc⟩, ⟨_, rfl, AP' (hrow _) rfl⟩, ⟨_, rfl, AP' rfl rfl⟩, ⟨_, rfl, Yc⟩, ⟨_, rfl, Yc⟩, ⟨_, rfl, AP' (A4' _ _) rfl⟩, ⟨_, rfl, Yc⟩, ⟨_, rfl, AP' (A4' _ _) rfl⟩, Ye⟩).fits χ⟩⟩; exact Cw8'
theorem TY' {da w : Bs} (K : ApK us us' sz sz' da w n p) (q : Nat) (sa : Bs)  (z : Nat) (V : List Value) (hV : V.length = z * 3) (hz : z < 1099511627776) (PR : Mem -> Prop) (hW : ∀ F, AL' W F -> C1OK Θ F fWp (cWm n w)) (hcl : ∀ F, C1OK Θ F fCl (cClB n w)) :
  Tri Θ W fAp [.ptr 2 0, .mt] (uD (pV z) us mSt mCk p q da sa (.cells (vmap V) tPw) PR ++ [(2, lgC sz)]) (iv 0) (uD (pV (z + 1)) us' mSt mCk (p + n) q (da ++ w) sa (.cells (vmap V ++ [sv nm1, iv (o' p), sB 1007 n]) tPw) PR ++ ((1007, rB w) :: [(2, lgC sz')])) := by
 have hrow : ∀ σ : Nat -> Nat, List.take (p * 1) (List.drop 0 (rowV encB da)) ++ List.take (n * 1) (List.drop 0 (AV.rens σ (rowV encB w))) = rowV encB (da ++ w) := fun σ => by
  rw [K.hn, K.hp, A4', List.drop_zero, List.drop_zero, List.take_of_length_le (by rw [BA', Nat.mul_one]; exact Yd), List.take_of_length_le (by rw [BA', Nat.mul_one]; exact Yd), BR']
 have w3 : ∀ σ : Nat -> Nat, (List.take (n * 1) (List.drop 0 (AV.rens σ (rowV encB w)))).length.beq (n * 1) = true := fun σ => by
  rw [K.hn, A4', List.drop_zero, List.take_of_length_le (by rw [BA', Nat.mul_one]; exact Yd), BA', Nat.mul_one]; exact Nat.beq_refl _
 have w4 : ∀ σ : Nat -> Nat, (List.take (n * 1) (List.drop 0 (AV.rens σ (rowV encB w)))).all AV.one = true := fun σ => by rw [K.hn]; exact LC' w σ
 have ktk : List.take (z * 3) (List.drop 0 (vmap V)) = vmap V := by rw [List.drop_zero, List.take_of_length_le (by rw [BF', hV]; exact Yd)]
 have z1 : (0 + z * 3).ble (vmap V).length = true := AM' (by rw [BF', hV]; omega); have z2 : ((z + 1) * 48).ble 140737488355328 = true := AM' ω; have z3 : (z + 1).ble 9223372036854775807 = true := AM' ω
 have z4 : (List.take (z * 3) (List.drop 0 (vmap V))).length.beq (z * 3) = true := by rw [ktk, BF', hV]; exact Nat.beq_refl _
 refine AW' (con := TN' n w) (hints := hAp us' sz') (lc := []) kD χ (fun F hF => AJ' (hW F hF) (AJ' (GI' (IY' _) (fun K => ⟨Ye, Ye⟩) (fun K => trivial) F) (AJ' (GI' (J3' _) (fun K => ⟨Ye, Ye⟩) (fun K => trivial) F) (C6' (hcl F))))) (fun F _ => noL) fun F => ?_
 refine Yj (T5' W us us' sz sz' mSt mCk p q n z da sa w V PR F) ⟨⟨?_, (B6' (vs' := [iv 0]) (H' := [(0, dkC (pV (z + 1)) us'), (1001, mpO mSt mCk), (1002, fiC (p + n) q), (1003, rB (da ++ w)), (1004, rB sa), (1005, (.cells (vmap V ++ [sv nm1, iv (o' p), sB 1007 n]) tPw)), (1006, .any (frz PR)), (1007, rB w), (2, lgC sz')]) [(1001, 1001), (1002, 1002), (1003, 1104), (1004, 1004), (1005, 1103), (1006, 1006), (1007, 1101)] χ χ (Yb) ⟨⟨_, rfl, Yc⟩, ⟨_, rfl, Yc⟩, ⟨_, rfl, Yc⟩, ⟨_, rfl, AP' (hrow _) rfl⟩, ⟨_, rfl, AP' rfl rfl⟩, ⟨_, rfl, by rw [ktk]; exact OW.of_eq (by simp only [AO.ren, C9', AK']; rfl)⟩, ⟨_, rfl, Yc⟩, ⟨_, rfl, AP' (A4' _ _) rfl⟩, ⟨_, rfl, Yc⟩, Ye⟩).fits χ⟩⟩
 exact Cw8'
theorem TW' {da w : Bs} (K : ApK us us' sz sz' da w n p) (q : Nat) (sa : Bs)  (O : AO) (PR : Mem -> Prop) (hW : ∀ F, AL' W F -> C1OK Θ F fWp (cWm n w)) (hcl : ∀ F, C1OK Θ F fCl (cClB n w)) :
  Tri Θ W fAp [.ptr 2 0, .mt] (uD nilS us mSt mCk p q da sa O PR ++ [(2, lgC sz)]) (iv 0) (uD (pV (0 + 1)) us' mSt mCk (p + n) q (da ++ w) sa (.cells [sv nm1, iv (o' p), sB 1007 n] tPw) PR ++ ((1007, rB w) :: [(2, lgC sz')])) := by
 have hrow : ∀ σ : Nat -> Nat, List.take (p * 1) (List.drop 0 (rowV encB da)) ++ List.take (n * 1) (List.drop 0 (AV.rens σ (rowV encB w))) = rowV encB (da ++ w) := fun σ => by
  rw [K.hn, K.hp, A4', List.drop_zero, List.drop_zero, List.take_of_length_le (by rw [BA', Nat.mul_one]; exact Yd), List.take_of_length_le (by rw [BA', Nat.mul_one]; exact Yd), BR']
 have w3 : ∀ σ : Nat -> Nat, (List.take (n * 1) (List.drop 0 (AV.rens σ (rowV encB w)))).length.beq (n * 1) = true := fun σ => by
  rw [K.hn, A4', List.drop_zero, List.take_of_length_le (by rw [BA', Nat.mul_one]; exact Yd), BA', Nat.mul_one]; exact Nat.beq_refl _
 have w4 : ∀ σ : Nat -> Nat, (List.take (n * 1) (List.drop 0 (AV.rens σ (rowV encB w)))).all AV.one = true := fun σ => by rw [K.hn]; exact LC' w σ
 refine AW' (con := TN' n w) (hints := hAp us' sz') (lc := []) kD χ (fun F hF => AJ' (hW F hF) (AJ' (GI' (IY' _) (fun K => ⟨Ye, Ye⟩) (fun K => trivial) F) (AJ' (GI' (J3' _) (fun K => ⟨Ye, Ye⟩) (fun K => trivial) F) (C6' (hcl F))))) (fun F _ => noL) fun F => ?_
 refine Yj (T3' W us us' sz sz' mSt mCk p q n da sa w O PR F) ⟨⟨?_, (B6' (vs' := [iv 0]) (H' := [(0, dkC (pV (0 + 1)) us'), (1001, mpO mSt mCk), (1002, fiC (p + n) q), (1003, rB (da ++ w)), (1004, rB sa), (1005, (.cells [sv nm1, iv (o' p), sB 1007 n] tPw)), (1006, .any (frz PR)), (1007, rB w), (2, lgC sz')]) [(1001, 1001), (1002, 1002), (1003, 1104), (1004, 1004), (1005, 1103), (1006, 1006), (1007, 1101)] χ χ (Yb) ⟨⟨_, rfl, Yc⟩, ⟨_, rfl, Yc⟩, ⟨_, rfl, Yc⟩, ⟨_, rfl, AP' (hrow _) rfl⟩, ⟨_, rfl, AP' rfl rfl⟩, ⟨_, rfl, Yc⟩, ⟨_, rfl, Yc⟩, ⟨_, rfl, AP' (A4' _ _) rfl⟩, ⟨_, rfl, Yc⟩, Ye⟩).fits χ⟩⟩; exact Cw8'
theorem ap_tri (W : World) (S rs : List Bs) (r : Bs) (hr : r.length <= most) (hS : 0 < (cat S).length) (hz : (cat (S ++ (rs ++ [r]))).length <= 1099511627776) (hk : rs.length < 1099511627776) (hW : ∀ F, AL' W F -> C1OK Θ F fWp (cWo r.length (AR' r).length r (AR' r))) : Tri Θ W fAp [.ptr 2 0, sB 4 r.length] ((0, dO S rs) :: [(2, lgC (o' (cat (S ++ rs)).length)), (4, rB r)]) (iv 0) ((0, dO S (rs ++ [r])) :: [(2, lgC (o' (cat (S ++ (rs ++ [r]))).length)), (4, rB r)]) := by
 have hlen : (AR' r).length = 8 + r.length := B3' r
 have hcat : cat (S ++ (rs ++ [r])) = cat (S ++ rs) ++ AR' r := by rw [<- List.append_assoc, DW']
 have hsum : (cat (S ++ (rs ++ [r]))).length = (cat (S ++ rs)).length + (AR' r).length := by rw [hcat, la']
 have K := UU' (da := cat (S ++ rs)) (w := AR' r) ω ω; rw [<- hsum] at K
 have hcl := fun (F : HP) => DY' (l := AR' r) (by rw [hlen]; show _ <= 140737488351232; have : r.length <= 1048576 := hr; omega) ω F
 refine OR' (by rfl) χ fun xs hx => ?_
 have hxl : xs.length = rs.length := by have := congrArg List.length hx; simpa using this
 have hat : (cat (S ++ rs)).length = (cat S).length + lenR xs := by rw [GH', la', IE' xs rs hx]
 have hg := RA' (S := S) (vs := [iv 0]) (H0 := [(2, lgC (o' (cat (S ++ (rs ++ [r]))).length)), (4, rB r)]) xs hx hr (by rfl) χ (fun K => ⟨Ye, Ye⟩) (fun K h0 => A0' ⟨h0, Ye, Ye, Ye, Ye⟩ (A0' (AS' _ _) A2')); rw [hcat, <- hat, <- hcat] at hg
 cases xs with
 | nil =>
  have := TV' K (cat S).length (cat S) r.length r dumZ (PB []) hW hcl; rw [<- hcat, <- hsum] at this; exact Tri.post this hg
 | cons x xs =>
  have := TX' K (cat S).length (cat S) r.length r (xs.length + 1) (pwV (cat S).length (x :: xs)) (NC' _ _) (by simp only [lc'] at hxl; omega) (PB (x :: xs)) hW hcl; rw [<- hcat, <- hsum] at this; exact Tri.post this hg
theorem Y8' (W : World) (S rs : List Bs) (r : Bs) (hr : r.length <= most) (hS : 0 < (cat S).length) (hz : (cat (S ++ (rs ++ [r]))).length <= 1099511627776) (hk : rs.length < 1099511627776) (hW : ∀ F, AL' W F -> C1OK Θ F fWp (cWm (AR' r).length (AR' r))) : Tri Θ W fAp [.ptr 2 0, .mt] ((0, dO S rs) :: [(2, lgC (o' (cat (S ++ rs)).length))]) (iv 0) ((0, dO S (rs ++ [r])) :: [(2, lgC (o' (cat (S ++ (rs ++ [r]))).length))]) := by
 have hlen : (AR' r).length = 8 + r.length := B3' r
 have hcat : cat (S ++ (rs ++ [r])) = cat (S ++ rs) ++ AR' r := by rw [<- List.append_assoc, DW']
 have hsum : (cat (S ++ (rs ++ [r]))).length = (cat (S ++ rs)).length + (AR' r).length := by rw [hcat, la']
 have K := UU' (da := cat (S ++ rs)) (w := AR' r) ω ω; rw [<- hsum] at K
 have hcl := fun (F : HP) => DY' (l := AR' r) (by rw [hlen]; show _ <= 140737488351232; have : r.length <= 1048576 := hr; omega) ω F
 refine OR' (by rfl) χ fun xs hx => ?_
 have hxl : xs.length = rs.length := by have := congrArg List.length hx; simpa using this
 have hat : (cat (S ++ rs)).length = (cat S).length + lenR xs := by rw [GH', la', IE' xs rs hx]
 have hg := RA' (S := S) (vs := [iv 0]) (H0 := [(2, lgC (o' (cat (S ++ (rs ++ [r]))).length))]) xs hx hr (by rfl) χ (fun K => ⟨Ye, Ye⟩) (fun K h0 => A0' ⟨h0, Ye, Ye, Ye, Ye⟩ A2'); rw [hcat, <- hat, <- hcat] at hg
 cases xs with
 | nil =>
  have := TW' K (cat S).length (cat S) dumZ (PB []) hW hcl; rw [<- hcat, <- hsum] at this; exact Tri.post this hg
 | cons x xs =>
  have := TY' K (cat S).length (cat S) (xs.length + 1) (pwV (cat S).length (x :: xs)) (NC' _ _) (by simp only [lc'] at hxl; omega) (PB (x :: xs)) hW hcl; rw [<- hcat, <- hsum] at this; exact Tri.post this hg
noncomputable section
abbrev fDs : Nat := 47
abbrev fLs : Nat := 23
def aSy (z i : Nat) : List (Nat × AV) := [(0, .ptr 0 0), (8, pV z), (9, iv (o' z)), (10, iv (o' i))]
def hSy (i : Nat) (at' : Int) (oa : Option Addr) (m k : Nat) : BK' := AG' [ht' fDs 1 0, (fDs, 2, 1, hv (.agg [sv nm1, iv at', slV oa m k])), (fDs, 5, 0, hv (iv (o' (i + 1))))]
def kS : List Nat := [0, 1001, 1002, 1003, 1004, 1005, 1006, 2, 1100, 1101, 1102, 1103, 1104]
abbrev k28' : Cnd := (ee' (s' nm1))
theorem VW' (us at' : Int) (st ck p q z i m k : Nat) (oa : Option Addr) (da sa : Bs) (V : List Value) (PR : Mem -> Prop) (F : HP) : B9' [(fCl, cClB p da)] (hSy i at' oa m k) [] default fDs (A8' fDs 1) (tms 0 33 (aSy z i)) (uD (pV z) us st ck p q da sa (.cells (vmap V) tPw) PR) kS [0, 8, 9, 10] F = VT.leaf (AX.normal,[pt' 0 0,AV.slice 1005 0 z 3 (Cp.lo z),i' z,i' (i + 1)],33) [some (ce' [AV.map 1001,AV.slice 1005 0 z 3 (Cp.lo z),i' 1099511627776,z' us] 142),some (AO.map [(s' nm1,pt' 1002 0,st)] ck),some (ce' [AV.slice 1003 0 p 1 (Cp.lo p),AV.slice 1101 0 p 1 (Cp.lo p)] 148),some (ce' (AV.rens (sgN (fun k => match k with | 0 => 1003 | k => k) [1000] 1101) (rowV encB da)) 10),some (ce' (rowV encB sa) 10),some (ce' (vmap V) 182),some (AO.any (frz PR)),none,some (ce' [s' nm1,z' at',AV.v (Value.slice oa m k)] 182),some (ce' (AV.rens (sgN (fun k => match k with | 0 => 1003 | k => k) [1000] 1101) (rowV encB da)) 10),none,none,none] 1102 (h3' i z (((p' ((List.take 3 (List.drop (0 + i * 3) (vmap V))).length.beq 3 = true)).a ((p' (List.take 3 (List.drop (0 + i * 3) (vmap V)) = [AV.v (Value.string ((List.take 3 (List.drop (0 + i * 3) (vmap V))).getD 0 (u')).strOf),AV.v (Value.int IntKind.i64 ((List.take 3 (List.drop (0 + i * 3) (vmap V))).getD 1 (u')).intOf),(List.take 3 (List.drop (0 + i * 3) (vmap V))).getD 2 (u')])).a (f' (Wk (AV.agg [AV.v (Value.string ((List.take 3 (List.drop (0 + i * 3) (vmap V))).getD 0 (u')).strOf),AV.v (Value.int IntKind.i64 ((List.take 3 (List.drop (0 + i * 3) (vmap V))).getD 1 (u')).intOf),(List.take 3 (List.drop (0 + i * 3) (vmap V))).getD 2 (u')]) (AV.agg [s' nm1,z' at',AV.v (Value.slice oa m k)]))))).a (k8'.a (k8'.a (k28'.a ((f' (findKey Tryz.prog (envW [(30,cClB p da)] (hSy i at' oa m k) [] default F) 9 (s' nm1) [(s' nm1,pt' 1002 0,st)] 0 = AP.ret (some (0,pt' 1002 0)))).a (k8'.a (((cp' True).a ((vw' [AV.slice 1003 0 p 1 (Cp.lo p)]).a (f' (OW (ce' (rowV encB da) 10) (ce' (AV.rens (fun k => match k with | 0 => 1003 | k => k) (rowV encB da)) 10))))).a (k8'.a ((k2' i).a k1')))))))))) := χ
abbrev k29' (q0 q1 : Nat) : Cnd := (wb' (decide (o' q0 < o' q1)) g')
theorem VY' (us : Int) (st ck p q z i : Nat) (da sa : Bs) (V : List Value) (PR : Mem -> Prop) (F : HP) : B9' [] (AG' [hf' fDs 1 0]) [] default fDs (A8' fDs 1) (tms 0 33 (aSy z i)) (uD (pV z) us st ck p q da sa (.cells (vmap V) tPw) PR) kS [0, 8, 9, 10] F = VT.leaf (AX.exit 0,[pt' 0 0,AV.slice 1005 0 z 3 (Cp.lo z),i' z,i' i],33) [some (ce' [AV.map 1001,AV.slice 1005 0 z 3 (Cp.lo z),i' 1099511627776,z' us] 142),some (AO.map [(s' nm1,pt' 1002 0,st)] ck),some (ce' [AV.slice 1003 0 p 1 (Cp.lo p),AV.slice 1004 0 q 1 (Cp.lo q)] 148),some (ce' (rowV encB da) 10),some (ce' (rowV encB sa) 10),some (ce' (vmap V) 182),some (AO.any (frz PR)),none,none,none,none,none,none] 1100 ((k29' i z).a k1') := χ
def lSy (us : Int) (st ck p q z : Nat) (da sa : Bs) (V : List Value) (PR : Mem -> Prop) : List AV -> AP (AX × List AV) := mkL (fun _ => .ret ()) (fun _ => True) (fun _ k => k) (fun _ => tms 0 33 (aSy z 0)) (fun _ => uD (pV z) us st ck p q da sa (.cells (vmap V) tPw) PR) (fun _ => .leaf (.exit 0) (tms 0 33 [(0, .ptr 0 0)]) (uD (pV z) us st ck p p da da (.cells (vmap V) tPw) PR))
theorem VX' (us sz : Int) (st ck p q z : Nat) (da sa : Bs) (V : List Value) (PR : Mem -> Prop) (F : HP) : wRun [] BB' [(fDs, 1, A8' fDs 1, lSy us st ck p q z da sa V PR)] default fLs [.ptr 2 0] (uD (pV z) us st ck p q da sa (.cells (vmap V) tPw) PR ++ [(2, lgC sz)]) kS F = VT.leaf (AV.tuple []) [some (ce' [AV.map 1100,e',i' 1099511627776,z' us] 142),none,none,none,none,none,none,some (ce' [pt' 0 0,s' nmL,i' 1,z' sz] 154),some (AO.map [(s' nm1,pt' 1101 0,st)] ck),some (ce' [AV.slice 1102 0 p 1 (Cp.lo p),AV.slice 1103 0 p 1 (Cp.lo p)] 148),some (ce' (AV.rens (sgN (fun k => k) [1001,1002,1003,1004,1005,1006] 1100) (rowV encB da)) 10),some (ce' (AV.rens (sgN (fun k => k) [1001,1002,1003,1004,1005,1006] 1100) (rowV encB da)) 10),some (ce' (AV.rens (sgN (fun k => k) [1001,1002,1003,1004,1005,1006] 1100) (vmap V)) 182)] 1106 (k8'.a (((fe' true).a ((p' ((fDs,1,A8' fDs 1,lSy us st ck p q z da sa V PR).snd.snd.fst = (fDs,1,A8' fDs 1,lSy us st ck p q z da sa V PR).snd.snd.fst)).a ((cp' True).a ((p' (VW (pt' 0 0::ru4 (pt' 0 0::pt' 0 0::pt' 0 1::AV.slice 1005 0 z 3 (Cp.lo z)::z' ↑z::i' 0::ru16 (ru4 (u'::u'::[])))) (pt' 0 0::ra4 (a'::a'::a'::AV.slice 1005 0 z 3 (Cp.lo z)::i' z::i' 0::ra16 (ra4 (a'::a'::[])))))).a ((ow' (ce' [AV.map 1001,AV.slice 1005 0 z 3 (Cp.lo z),i' 1099511627776,z' us] 142)).a ((ow' (AO.map [(s' nm1,pt' 1002 0,st)] ck)).a ((ow' (ce' [AV.slice 1003 0 p 1 (Cp.lo p),AV.slice 1004 0 q 1 (Cp.lo q)] 148)).a ((p' (OW (ce' (rowV encB da) 10) (ce' (AV.rens (fun k => k) (rowV encB da)) 10))).a ((p' (OW (ce' (rowV encB sa) 10) (ce' (AV.rens (fun k => k) (rowV encB sa)) 10))).a ((p' (OW (ce' (vmap V) 182) (ce' (AV.rens (fun k => k) (vmap V)) 182))).a ((ow' (AO.any (frz PR))).a ((fe' true).a t')))))))))))).a k1')) := χ
theorem VV' (us sz : Int) (st ck p q : Nat) (da sa : Bs) (O : AO) (PR : Mem -> Prop) (F : HP) : wRun [] BB' [] default fLs [.ptr 2 0] (uD nilS us st ck p q da sa O PR ++ [(2, lgC sz)]) kS F = VT.ite false (VT.bad "indexAddr") (VT.leaf (AV.tuple []) [some (ce' [AV.map 1001,e',i' 1099511627776,z' us] 142),some (AO.map [(s' nm1,pt' 1002 0,st)] ck),some (ce' [AV.slice 1003 0 p 1 (Cp.lo p),AV.slice 1004 0 q 1 (Cp.lo q)] 148),some (ce' (rowV encB da) 10),some (ce' (rowV encB sa) 10),some O,some (AO.any (frz PR)),some (ce' [pt' 0 0,s' nmL,i' 1,z' sz] 154),none,none,none,none,none] 1100 (k8'.a (((fe' true).a ((fe' true).a t')).a k1'))) := χ
end
def AtV (V : List Value) (z : Nat) : Prop := ∀ i, i < z -> ∃ (n : Nat) (oa : Option Addr) (m k : Nat), List.take 3 (List.drop (0 + i * 3) (vmap V)) = [sv nm1, iv (o' n), slV oa m k]
theorem QV' : ∀ (xs : List Rs) (o i : Nat) (x : Rs), xs[i]? = some x -> List.take 3 (List.drop (0 + i * 3) (vmap (pwV o xs))) = [sv nm1, iv (o' (o + lenR (xs.take i))), slV x.a x.d.length x.c]
 | [], o, i, x, h => by simp at h
 | y :: xs, o, 0, x, h => by
  simp only [List.getElem?_cons_zero, Option.some.injEq] at h; subst h; rfl
 | y :: xs, o, i + 1, x, h => by
  have := QV' xs (o + y.d.length) i x (by simpa using h); rw [List.take_succ_cons, EG', <- Nat.add_assoc, <- this]
  have e : 0 + (i + 1) * 3 = (0 + i * 3) + 3 := ω
  rw [e]; rfl
theorem VF' (xs : List Rs) (o : Nat) : AtV (pwV o xs) xs.length := fun i hi => ⟨_, _, _, _, QV' xs o i _ (List.getElem?_eq_getElem hi)⟩
theorem V5' (us : Int) (q z : Nat) (hz : 0 < z) (hzb : z < 1099511627776) (da sa : Bs) (hb : da.length <= big) (hp : 0 < da.length) (V : List Value) (hV : AtV V z) (PR : Mem -> Prop) :
  LTri Θ default (A8' fDs 1) (tms 0 33 (aSy z 0)) (uD (pV z) us mSt mCk da.length q da sa (.cells (vmap V) tPw) PR) (.exit 0) (tms 0 33 [(0, .ptr 0 0)]) (uD (pV z) us mSt mCk da.length da.length da da (.cells (vmap V) tPw) PR) := by
 refine BP' (W := default) (g := fDs) (b := A8' fDs 1) (σ := {s : Nat × Nat × Bs // s.1 <= z /\ ((s.1 = 0 /\ s.2 = (q, sa)) \/ (s.2 = (da.length, da)))}) 33 (fun s => aSy z s.1.1) (fun s => uD (pV z) us mSt mCk da.length s.1.2.1 da s.1.2.2 (.cells (vmap V) tPw) PR) (.exit 0) [(0, .ptr 0 0)] (uD (pV z) us mSt mCk da.length da.length da da (.cells (vmap V) tPw) PR) (fun s => z - s.1.1) kS [0, 8, 9, 10] (by intro h; cases h) (fun _ => rfl) rfl ?_ ⟨(0, q, sa), Nat.zero_le _, .inl ⟨rfl, rfl⟩⟩; rintro ⟨⟨i, q', sa'⟩, hi, hs⟩; simp only at hi hs ⊢
 by_cases h1 : i < z
 ·obtain ⟨n, oa, m, k, he⟩ := hV i h1; have e1 : decide (o' i < o' z) = true := ltTN h1; have hw := BQ' i ω
  have hbl : i.blt z = true := by rw [Nat.blt_eq]; exact h1
  refine ⟨[(fCl, cClB da.length da)], hSy i (o' n) oa m k, [], fun F hF => C6' (DY' hb hp F), fun _ _ => noL, fun F => ?_⟩
  refine Yj (VW' us (o' n) mSt mCk da.length q' z i m k oa da sa' V PR F) ⟨⟨?_, rfl, .inl ⟨rfl, ⟨(i + 1, da.length, da), h1, .inr rfl⟩, C8' h1, [(1001, 1001), (1002, 1002), (1003, 1003), (1004, 1101), (1005, 1005), (1006, 1006)], by kernel_rfl, by kernel_rfl, ⟨Ya, Ya, Ya, Ya, Ye⟩, ⟨_, rfl, Yc⟩, ⟨_, rfl, Yc⟩, ⟨_, rfl, Yc⟩, ⟨_, rfl, AP' (A4' _ _) rfl⟩, ⟨_, rfl, AP' (A4' _ _) rfl⟩, ⟨_, rfl, OW.of_eq (by simp only [AO.ren, AK'])⟩, ⟨_, rfl, Yc⟩, Ye⟩⟩⟩
  simp only [Cnd.holds, he, hbl, true_and, and_true]; and_intros; all_goals first | (with_reducible exact CK' hw) | (with_reducible exact A3' e1) | (with_reducible exact Ye) | (with_reducible exact rfl) | (with_reducible exact Ya) | (with_reducible exact Yb) | (with_reducible exact Yc) | exact rfl | exact Ya | exact Yb | (refine OW.of_eq ?_; simp only [AO.ren, A4']; done)
 ·have hie : i = z := ω
  subst hie
  have hq : q' = da.length /\ sa' = da := by
   rcases hs with ⟨h, _⟩ | h
   ·omega
   ·cases h; exact ⟨rfl, rfl⟩
  obtain ⟨rfl, rfl⟩ := hq
  refine ⟨[], AG' [hf' fDs 1 0], [], fun _ _ => noC, fun _ _ => noL, fun F => ?_⟩
  refine Yj (VY' us mSt mCk sa'.length sa'.length i i sa' sa' V PR F) ⟨⟨?_, rfl, .inr ⟨rfl, [(1001, 1001), (1002, 1002), (1003, 1003), (1004, 1004), (1005, 1005), (1006, 1006)], by kernel_rfl, by kernel_rfl, ⟨Ya, Ye⟩, ⟨_, rfl, Yc⟩, ⟨_, rfl, Yc⟩, ⟨_, rfl, Yc⟩, ⟨_, rfl, AP' rfl rfl⟩, ⟨_, rfl, AP' rfl rfl⟩, ⟨_, rfl, OW.of_eq (by simp only [AO.ren, AK'])⟩, ⟨_, rfl, Yc⟩, Ye⟩⟩⟩
  simp only [Cnd.holds, and_true]; exact A3' (ltFN (Yd))
def uD5 (us : Int) (p q : Nat) (da sa : Bs) : LH := [(0, dkC nilS us), (1001, mpO mSt mCk), (1002, fiC p q), (1003, rB da), (1004, rB sa)]
theorem RB' {S : List Bs} (hd : (([0, 1001, 1002, 1003, 1004, 1005, 1006] : List Nat).all fun i => (getO H0 i).isNone) = true) (hl : AA' 1100 H0 = true)
  (hv : AV.cls (fun i => Nat.blt i 1000 || (getO H0 i).isSome) vs) (ho : ∀ x ∈ H0, x.2.cl (fun i => Nat.blt i 1000 || (getO H0 i).isSome)) :
  Goes vs (uD5 (o' (cat S).length) (cat S).length (cat S).length (cat S) (cat S) ++ H0) vs ((0, dO S []) :: H0) := by
 have hd' := hd; simp only [List.all_cons, List.all_nil, Bool.and_true, Bool.and_eq_true, Option.isNone_iff_eq_none] at hd'; obtain ⟨n0, n1, n2, n3, n4, n5, n6⟩ := hd'; have hl' : (H0.all fun x => Nat.blt x.1 1100) = true := hl; have e0 : S ++ [] = S := List.append_nil S
 have g1 : Goes vs (uD5 (o' (cat S).length) (cat S).length (cat S).length (cat S) (cat S) ++ H0) vs (uD5 (o' (cat S).length) (cat S).length (cat S).length (cat S) (cat S) ++ ((1005, dumZ) :: H0)) := by
  refine ET' (k := 1005) (P := fun _ => True) (fun C => trivial) ?_ ?_ rfl δ ?_ (fun n hn => ?_)
  ·simp only [AA', uD5, List.cons_append, List.nil_append, List.all_cons, hl']; rfl
  ·simp only [AA', uD5, List.cons_append, List.nil_append, List.all_cons, hl']; rfl
  ·exact n5
  ·simp only [uD5, List.cons_append, List.nil_append, getO, if_neg hn]
 have g2 : Goes vs (uD5 (o' (cat S).length) (cat S).length (cat S).length (cat S) (cat S) ++ ((1005, dumZ) :: H0)) vs (dkL S [] [] ++ H0) := by
  refine ET' (k := 1006) (P := PB []) (fun C x hx => by cases hx) ?_ ?_ rfl δ ?_ (fun n hn => ?_)
  ·simp only [AA', uD5, List.cons_append, List.nil_append, List.all_cons, hl']; rfl
  ·simp only [AA', dkL, uD, List.cons_append, List.nil_append, List.all_cons, hl']; rfl
  ·exact n6
  ·simp only [uD5, dkL, uD, List.cons_append, List.nil_append, getO, if_neg hn, e0]; rfl
 exact (g1.trans g2).trans (U3' [] rfl hd hl hv ho)
theorem sy_run (us sz : Int) (q z : Nat) (hz : 0 < z) (hzb : z < 1099511627776) (da sa : Bs) (hb : da.length <= big) (hp : 0 < da.length) (V : List Value) (hV : AtV V z) (PR : Mem -> Prop) :
  Tri Θ default fLs [.ptr 2 0] (uD (pV z) us mSt mCk da.length q da sa (.cells (vmap V) tPw) PR ++ [(2, lgC sz)]) (.tuple []) (uD5 us da.length da.length da da ++ [(2, lgC sz)]) := by
 have hL : ∀ F, AL' default F -> L1OK Θ F (A8' fDs 1) (lSy us mSt mCk da.length q z da sa V PR) := fun F hF =>
  CX' hF (fun _ => RO.ret _) (fun _ _ => V5' us q z hz hzb da sa hb hp V hV PR) fun _ => by
   simp only [RT.pick]; refine BX' rfl rfl (A0' rfl (A0' rfl (A0' Ye (A0' Ye A2')))) (A0' ⟨rfl, rfl, Ye, Ye, Ye⟩ (A0' ⟨Ye, rfl, Ye⟩ (A0' ⟨rfl, rfl, Ye⟩ (A0' (AS' _ _) (A0' (AS' _ _) (A0' (B1' _ _) (A0' Ye A2'))))))) (A0' rfl A2') (A0' ⟨rfl, rfl, Ye, Ye, Ye⟩ (A0' ⟨Ye, rfl, Ye⟩ (A0' ⟨rfl, rfl, Ye⟩ (A0' (AS' _ _) (A0' (AS' _ _) (A0' (B1' _ _) (A0' Ye A2')))))))
 refine AW' (con := []) (hints := BB') (lc := [(fDs, 1, A8' fDs 1, lSy us mSt mCk da.length q z da sa V PR)]) kS χ (fun F _ => noC) (fun F hF => GF' (hL F hF)) fun F => ?_
 refine Yj (VX' us sz mSt mCk da.length q z da sa V PR F) ⟨⟨?_, (B6' (vs' := [.tuple []]) (H' := [(0, dkC nilS us), (1001, mpO mSt mCk), (1002, fiC da.length da.length), (1003, rB da), (1004, rB da), (2, lgC sz)]) [(1001, 1100), (1002, 1101), (1003, 1102), (1004, 1103)] χ χ (Yb) ⟨⟨_, rfl, Yc⟩, ⟨_, rfl, Yc⟩, ⟨_, rfl, Yc⟩, ⟨_, rfl, AP' (A4' _ _) rfl⟩, ⟨_, rfl, AP' (A4' _ _) rfl⟩, ⟨_, rfl, Yc⟩, Ye⟩).fits χ⟩⟩
 simp only [Cnd.holds, true_and, and_true]; and_intros; all_goals exact Kw13'
theorem V4' (us sz : Int) (p q : Nat) (da sa : Bs) (O : AO) (PR : Mem -> Prop) :
  Tri Θ default fLs [.ptr 2 0] (uD nilS us mSt mCk p q da sa O PR ++ [(2, lgC sz)]) (.tuple []) (uD5 us p q da sa ++ [(2, lgC sz)]) := by
 refine AW' (con := []) (hints := BB') (lc := []) kS χ (fun F _ => noC) (fun F hF => noL) fun F => ?_
 refine Yj (VV' us sz mSt mCk p q da sa O PR F) ⟨fun h => (by cases h), fun _ => ⟨?_, (B6' (vs' := [.tuple []]) (H' := [(0, dkC nilS us), (1001, mpO mSt mCk), (1002, fiC p q), (1003, rB da), (1004, rB sa), (2, lgC sz)]) [(1001, 1001), (1002, 1002), (1003, 1003), (1004, 1004)] χ χ (Yb) ⟨⟨_, rfl, Yc⟩, ⟨_, rfl, Yc⟩, ⟨_, rfl, Yc⟩, ⟨_, rfl, AP' rfl rfl⟩, ⟨_, rfl, AP' rfl rfl⟩, ⟨_, rfl, Yc⟩, Ye⟩).fits χ⟩⟩
 simp [Cnd.holds]
theorem sy_tri (S rs : List Bs) (sz : Int) (h0 : 0 < (cat S).length) (hz : (cat (S ++ rs)).length <= 1099511627776) (hk : rs.length < 1099511627776) : Tri Θ default fLs [.ptr 2 0] [(0, dO S rs), (2, lgC sz)] (.tuple []) [(0, dO (S ++ rs) []), (2, lgC sz)] := by
 refine OR' (H0 := [(2, lgC sz)]) (by rfl) χ fun xs hx => ?_
 have hg := RB' (S := S ++ rs) (vs := [.tuple []]) (H0 := [(2, lgC sz)]) (by rfl) χ ⟨Ye, Ye⟩ (A0' ⟨rfl, Ye, Ye, Ye, Ye⟩ A2')
 have hxl : xs.length = rs.length := by have := congrArg List.length hx; simpa using this
 have hlen : 0 < (cat (S ++ rs)).length := by rw [GH', la']; omega
 cases xs with
 | nil =>
  obtain rfl : rs = [] := List.length_eq_zero_iff.1 hxl.symm; rw [List.append_nil] at hg ⊢; have := V4' (o' (cat (S ++ [])).length) sz (cat (S ++ [])).length (cat S).length (cat (S ++ [])) (cat S) dumZ (PB []); rw [List.append_nil] at this; rw [dkL, List.append_nil]; exact Tri.post this hg
 | cons x xs =>
  exact Tri.post (sy_run (o' (cat (S ++ rs)).length) sz (cat S).length (xs.length + 1) ω (by simp only [lc'] at hxl; omega) (cat (S ++ rs)) (cat S) (by show _ <= 140737488351232; omega) hlen (pwV (cat S).length (x :: xs)) (VF' (x :: xs) _) (PB (x :: xs))) hg
abbrev fSo : Nat := 49
abbrev fKy : Nat := 66
abbrev fDo : Nat := 9
abbrev fWo : Nat := 11
def cSo : List AV -> Option (AP AV) := fun args => match args with
 | [.func (.func g) [] [.ptr i 0]] => match Nat.beq g fKy with
  | true => some (EO' 9 i)
  | false => none
 | _ => none
theorem P3' (F : HP) : C1OK Θ F fSo cSo := by
 intro st W0 N h w1 args vargs v h' n n' lg lg' c p hp he hc r ha hf; unfold cSo at hp; split at hp
 ·rename_i g i
  have hva : ∃ l, N i = some l /\ vargs = #[.func (.func g) #[] #[.pointer (some ⟨l.blk, l.off + 0, none⟩)]] := by
   obtain ⟨y, r0, h1, h2, h3⟩ := (by simpa only [VRs] using ha : ∃ y r, VR N (.func (.func g) [] [.ptr i 0]) y /\ r = [] /\ vargs.toList = y :: r); subst h2; simp only [VR] at h1; obtain ⟨f', c', q1, q2, rfl⟩ := h1; simp only [VRs] at q1; subst q1; obtain ⟨z, r1, q3, q4, rfl⟩ := (by simpa only [VRs] using q2 : ∃ y r, VR N (.ptr i 0) y /\ r = [] /\ c' = y :: r); subst q4; simp only [VR] at q3; obtain ⟨l, hl, rfl⟩ := q3
   exact ⟨l, hl, by apply Array.ext'; simpa using h3⟩
  obtain ⟨l, hl, rfl⟩ := hva; split at hp
  ·rename_i hg; have hg := Nat.eq_of_beq_eq_true hg; subst hg; cases hp; exact E9' χ QL' r hl hf he
  ·cases hp
 ·cases hp
def cGn : List AV -> Option (AP AV) := mkC (fun args => match args with | [.v (.string s)] => .ret s | _ => .fail "name") (fun s => s = nm1 \/ s = nmL) (fun _ k => k) (fun s => [sv s]) (fun _ => []) (fun _ => .leaf .ret [bv true] [])
theorem RO' (F : HP) : C1OK Θ F fGn cGn :=
 BD' (W := default) CL' (fun _ => bv true) (fun args => by split <;> first | exact RO.ret _ | exact RO.fail _) (fun _ => rfl) (fun s h => by
  rcases h with rfl | rfl
  ·exact J3' _
  ·exact XP' _) fun s => ⟨rfl, rfl, ⟨Ye, Ye⟩, A2', ⟨Ye, Ye⟩, A2'⟩
def cWz (n : Nat) (w : Bs) : List AV -> Option (AP AV) := mkC (fun _ => .ret ()) (fun _ => True) (fun _ k => k) (fun _ => [nilS]) (fun _ => []) (fun _ => .leaf .ret [.tuple [sB 1000 n, iv 0]] [(1000, rB w)])
theorem cWz_ok (hN : LN W) (F : HP) (hF : AL' W F) : C1OK Θ F fWp (cWz (AR' []).length (AR' [])) :=
 BD' hF (fun _ => .tuple [sB 1000 (AR' []).length, iv 0]) (fun _ => RO.ret _) (fun _ => rfl) (fun _ _ => K8' W hN none 0 [] ⟨Nat.zero_le _, fun i b hb => by simp at hb⟩ (Nat.zero_le _)) fun _ => ⟨rfl, rfl, ⟨Ye, Ye⟩, A2', ⟨⟨rfl, Ye, Ye⟩, Ye⟩, A0' (AS' _ _) A2'⟩
def dkZ : AO := .cells [.map 1001, nilS, iv 1099511627776, iv 0] tDk
def dZL : LH := [(0, dkZ), (1001, .map [] 0)]
def dZ : AO := .own .nothing (exHP (fun _ : Unit => True) (fun _ => dZL))
theorem open_z {f : FuncId} {A : List AV} {v : AV} {H' : LH} (h : Tri Θ W f A dZL v H') : Tri Θ W f A [(0, dZ)] v H' :=
 Tri.open (R := fun _ : Unit => True) (L := fun _ => dZL) (H0 := []) (fun _ => rfl) (fun _ => A0' ⟨rfl, Ye, Ye, Ye, Ye⟩ (A0' Ye A2')) (fun _ => ⟨_, rfl⟩) fun _ _ => by rw [List.append_nil]; exact h
noncomputable section
theorem X1' (F : HP) : wRun [] BB' [] default fDo [nilS, iv 1099511627776] [] [1100, 1101, 1102, 1103] F = VT.ite false (VT.bad "indexAddr") (VT.leaf (AV.tuple [pt' 1101 0,i' 0]) [some (AO.map [] 0),some (ce' [AV.map 1100,e',i' 1099511627776,i' 0] 142),none,none] 1102 k1') := χ
def conOz (n : Nat) (w : Bs) : G0' := [(fGn, cGn), (fCt, cK [sv nmL, sv nmP] (bv false)), (fSo, cSo), (fWp, cWz n w), (fIt, cK [iv 1] (sv nmO)), (fCl, cClB n w)]
def hOz (n : Nat) : BK' := AG' [hf' fWo 1 2, hf' fWo 1 6, hf' fWo 1 11, hf' fWo 6 0, hf' fWo 16 0, hf' fWo 22 4, hf' fWo 27 1, (fFl, 1, 4, hv (sv nmD)), (fFl, 1, 7, hv (sv nm1)), hf' fPt 2 1, hf' fDa 1 2, hf' fDa 3 8, hf' fDa 3 21, ht' fDa 6 1, (fDa, 11, 6, hv (iv (o' n))), ht' fAp 2 1, (fAp, 3, 5, hv (iv (o' n)))]
def kOz : List Nat := [0, 1001, 1100, 1101, 1102, 1103, 1104, 1105, 1106, 1107, 1108, 1109, 1110, 1111, 1112, 1113, 1114, 1115, 1116]
abbrev y0' : Δ := ByteArray.mk (Array.mk [46])
abbrev k30' (q0 : Nat) (q1 : Bs) (q2 : World) (q3 : HP) (q4 q5 q6 q7 : Nat) : Cnd := ((ee' (i' 1)).a ((((p' True).a (f' (VW [e'] [e']))).a ((f' (Wk (b' false) g')).a ((fe' true).a (((ee' (s' nmL)).a ((f' (Wk (s' (nmL ++ ByteArray.mk (Array.mk [46]))) (s' nmD))).a (((p' True).a (f' (VW [i' 1] [i' 1]))).a ((f' (Wk (s' (nmD ++ nmO)) (s' nm1))).a t')))).a ((((p' (nm1 = nm1 \/ nm1 = nmL)).a (f' (VW [s' nm1] [s' nm1]))).a ((f' (Wk (b' false) g')).a ((ee' (i' 1099511627776)).a ((ee' (i' 0)).a ((f' (Wk (b' false) g')).a ((ee' (i' 1099511627776)).a ((ee' (i' 0)).a ((wb' (decide (↑q0 > o' 1099511627776)) g').a ((fe' true).a ((f' (findKey Tryz.prog (envW [(29,cGn),(31,cK [s' nmL,s' nmP] (b' false)),(49,cSo),(60,cWz q0 q1),(56,cK [i' 1] (s' nmO)),(30,cClB q0 q1)] (hOz q0) [] q2 q3) 9 (s' nm1) [] 0 = AP.ret none)).a ((f' (Wk (b' true) j')).a ((fe' true).a (((p' (findKey Tryz.prog (envW [(29,cGn),(31,cK [s' nmL,s' nmP] (b' false)),(49,cSo),(60,cWz q0 q1),(56,cK [i' 1] (s' nmO)),(30,cClB q0 q1)] (hOz q0) [] q2 q3) 9 (s' nm1) [] 0 = AP.ret none)).a (f' (E4' (s' nm1) []))).a ((fe' true).a ((fe' true).a (((p' True).a ((vw' [AV.slice q4 0 q0 1 (Cp.lo q0)]).a (f' (OW (ce' (AV.rens (sgN (fun k => k) [q5] q4) (rowV encB q1)) 10) (ce' (AV.rens (fun k => match k with | 0 => sgN ((fun x k => k) ()) (newL [(q5,rB q1)]) (q6 + 1 + 1 + 1) q5 | k => k) (rowV encB q1)) 10))))).a ((tt'.a (tt'.a (tt'.a (tt'.a (ee' true))))).a ((fe' true).a ((fe' true).a (((p' (q0.ble q0 = true)).a ((p' ((List.take (q0 * 1) (List.drop 0 (AV.rens (sgN (fun k => match k with | 0 => sgN ((fun x k => k) ()) (newL [(q5,rB q1)]) (q6 + 1 + 1 + 1) q5 | k => k) [q5] q7) (rowV encB q1)))).length.beq (q0 * 1) = true)).a ((p' ((List.take (q0 * 1) (List.drop 0 (AV.rens (sgN (fun k => match k with | 0 => sgN ((fun x k => k) ()) (newL [(q5,rB q1)]) (q6 + 1 + 1 + 1) q5 | k => k) [q5] q7) (rowV encB q1)))).all AV.one = true)).a ((p' (Nat.blt 0 q0 = true)).a ((p' ((q0 * 1).ble 140737488355328 = true)).a (f' (q0.ble 9223372036854775807 = true))))))).a ((fe' true).a ((ee' (i' 0)).a ((f' (Wk (z' (IntKind.i64.wrap (o' 0 + ↑q0))) (i' q0))).a ((fe' true).a t')))))))))))))))))))))))).a t'))))).a ((f' (Wk (b' true) j')).a ((ee' (i' 0)).a ((f' (Wk (z' (IntKind.i64.wrap (o' 0 + ↑q0))) (i' q0))).a ((fe' true).a t'))))))
abbrev k31' : Cnd := (ee' (i' 0))
abbrev k32' : Cnd := ((fe' true).a t')
abbrev k33' : Cnd := ((p' True).a (f' (VW [s' nmL,s' y0'] [s' nmL,s' nmP])))
abbrev k34' : Cnd := ((p' (nmL = nm1 \/ nmL = nmL)).a (f' (VW [s' nmL] [s' nmL])))
theorem VN' (W : World) (n : Nat) (w : Bs) (F : HP) : wRun (conOz n w) (hOz n) [] W fWo [.ptr 0 0, sv nmL] dZL kOz F = VT.ite true (VT.ite false (VT.bad "store one cell each") (VT.leaf (AV.tuple [pt' 1100 0,AV.slice 1111 0 1 1 (Cp.ex 1),i' 0]) [some (ce' [AV.map 1001,e',i' 1099511627776,i' n] 142),some (AO.map [(s' nm1,pt' 1104 0,0)] 1),some (ce' [pt' 0 0,s' nmL,i' 1,i' n] 154),some (ce' [AV.map 1001] 136),some (ce' [AV.map 1001] 136),some (ce' (AV.rens (sgN (fun k => match k with | 0 => sgN ((fun x k => k) ()) (newL [(1000,rB w)]) (1100 + 1 + 1 + 1) 1000 | k => k) [1000] 1105) (rowV encB w)) 10),some (ce' [AV.slice 1108 0 n 1 (Cp.lo n),AV.slice 1110 0 n 1 (Cp.lo n)] 148),some (ce' (AV.rens (sgN (fun k => match k with | 0 => sgN ((fun x k => k) ()) (newL [(1000,rB w)]) (1100 + 1 + 1 + 1) 1000 | k => k) [1000] 1105) (rowV encB w)) 10),some (ce' [s' nm1,i' 0,AV.slice 1105 0 n 1 (Cp.lo n)] 182),some (ce' [s' nm1,i' 0,AV.slice 1105 0 n 1 (Cp.lo n)] 182),some (ce' (AV.rens (sgN (fun k => match k with | 0 => 1100 + 1 + 1 + 1 + 1 + 1 + 1 + 1 + 1 | k => k) [1000] 1110) (rowV encB w)) 10),some (ce' [s' nm1,i' 0,AV.slice 1105 0 n 1 (Cp.lo n)] 182),some (ce' (AV.rens (sgN (fun k => match k with | 0 => 1100 + 1 + 1 + 1 + 1 + 1 + 1 + 1 + 1 | k => k) [1000] 1110) (rowV encB w)) 10),some (ce' [e'] 98),none,none,none,none,none] 1112 (k34'.a (k6'.a (k6'.a (k33'.a (k6'.a (k32'.a (k6'.a (k32'.a (k6'.a (k31'.a (k6'.a (k8'.a ((k30' n w W F 1103 1000 1100 1105).a (k6'.a (((fe' true).a (((fe' true).a ((fe' true).a ((ee' [s' nm1,i' 0,AV.slice 1105 0 n 1 (Cp.lo n)]).a ((fe' true).a ((fe' true).a ((ee' (s' nm1)).a ((f' (findKey Tryz.prog (envW [(29,cGn),(31,cK [s' nmL,s' nmP] (b' false)),(49,cSo),(60,cWz n w),(56,cK [i' 1] (s' nmO)),(30,cClB n w)] (hOz n) [] W F) 9 (s' nm1) [(s' nm1,pt' 1104 0,0)] 0 = AP.ret (some (0,pt' 1104 0)))).a ((fe' true).a (((cp' True).a ((vw' [AV.slice 1108 0 n 1 (Cp.lo n)]).a (f' (OW (ce' (List.take (n * 1) (List.drop 0 (AV.rens (sgN (fun k => match k with | 0 => sgN ((fun x k => k) ()) (newL [(1000,rB w)]) (1100 + 1 + 1 + 1) 1000 | k => k) [1000] 1105) (rowV encB w)))) 10) (ce' (AV.rens (fun k => match k with | 0 => 1100 + 1 + 1 + 1 + 1 + 1 + 1 + 1 + 1 | k => k) (rowV encB w)) 10))))).a ((fe' true).a ((fe' true).a t'))))))))))).a t')).a k1'))))))))))))))))) (VT.leaf (AV.tuple [pt' 1100 0,AV.slice 1109 0 1 1 (Cp.ex 1),i' 0]) [some (ce' [AV.map 1001,e',i' 1099511627776,i' n] 142),some (AO.map [(s' nm1,pt' 1104 0,0)] 1),some (ce' [pt' 0 0,s' nmL,i' 1,i' n] 154),some (ce' [AV.map 1001] 136),some (ce' [AV.map 1001] 136),some (ce' (AV.rens (sgN (fun k => match k with | 0 => sgN ((fun x k => k) ()) (newL [(1000,rB w)]) (1100 + 1 + 1 + 1) 1000 | k => k) [1000] 1105) (rowV encB w)) 10),some (ce' [AV.slice 1108 0 n 1 (Cp.lo n),e'] 148),some (ce' (AV.rens (sgN (fun k => match k with | 0 => sgN ((fun x k => k) ()) (newL [(1000,rB w)]) (1100 + 1 + 1 + 1) 1000 | k => k) [1000] 1105) (rowV encB w)) 10),some (ce' [s' nm1,i' 0,AV.slice 1105 0 n 1 (Cp.lo n)] 182),some (ce' [s' nm1,i' 0,AV.slice 1105 0 n 1 (Cp.lo n)] 182),some (ce' (List.take (n * 1) (List.drop 0 (AV.rens (sgN (fun k => match k with | 0 => sgN ((fun x k => k) ()) (newL [(1000,rB w)]) (1100 + 1 + 1 + 1) 1000 | k => k) [1000] 1105) (rowV encB w)))) 10),some (ce' [e'] 98),none,none,none,none,none,none,none] 1110 (k34'.a (k6'.a (k6'.a (k33'.a (k6'.a (k32'.a (k6'.a (k32'.a (k6'.a (k31'.a (k6'.a (k8'.a ((k30' n w W F 1103 1000 1100 1105).a (k6'.a (((fe' true).a (((fe' true).a ((fe' true).a t')).a t')).a k1')))))))))))))))) := χ
end
theorem TZ' {a b : List AV} (h : VW a b) : Wk (.tuple a) (.tuple b) := fun N y hy => by
 simp only [VR] at *; obtain ⟨vs, h1, rfl⟩ := hy; exact ⟨vs, h N vs h1, rfl⟩
theorem IK' (k : AV) : E4' k [] := fun j v h => by simp [C0'] at h
theorem do_z : Tri Θ default fDo [nilS, iv 1099511627776] [] (.tuple [.ptr 1000 0, iv 0]) [(1000, dZ)] := by
 refine AW' (con := []) (hints := BB') (lc := []) [1100, 1101, 1102, 1103] rfl (fun _ _ => noC) (fun F _ => noL) fun F => ?_
 refine Yj (X1' F) ⟨fun h => (by cases h), fun _ => ⟨Ye, [.tuple [.ptr 1000 0, iv 0]], [(1000, dkZ), (1001, .map [] 0)], [(1000, 1101), (1001, 1100)], rfl, B6' (vs' := [.tuple [.ptr 1000 0, iv 0]]) (H' := [(1000, dkZ), (1001, .map [] 0)]) _ χ χ (Yb) ⟨⟨_, rfl, Yc⟩, ⟨_, rfl, Yc⟩, Ye⟩, ?_⟩⟩
 exact Goes.shutNew (R := fun _ : Unit => True) (L := fun _ => dZL) (m := .nothing) 1000 δ () trivial χ χ ⟨_, _, rfl, by kernel_rfl⟩ ⟨⟨rfl, Ye, Ye⟩, Ye⟩
theorem Y0' : cat [[]] = AR' [] := by simp [cat]
theorem wo_run (W : World) (w : Bs) (hW : ∀ F, AL' W F -> C1OK Θ F fWp (cWz w.length w)) (hcl : ∀ F, C1OK Θ F fCl (cClB w.length w)) (h0 : 0 < w.length) (hb : w.length <= 1048584) :
  Tri Θ W fWo [.ptr 0 0, sv nmL] dZL (.tuple [.ptr 1020 0, .slice 1021 0 1 1 (.lo 1), iv 0]) (uD5 (o' w.length) w.length w.length w w ++ [(1020, lgC (o' w.length)), (1021, .cells [nilS] tRb)]) := by
 have hrl : (rowV encB w).length = w.length := BA' w; have f2 : decide ((w.length : Int) > o' 1099511627776) = false := decide_eq_false (by simp only [Z0]; omega)
 have hus : IntKind.i64.wrap (o' 0 + (w.length : Int)) = o' w.length := by
  rw [IntWalk.i64_in _ (by simp only [Z0]; omega)]; simp only [Z0]; omega
 have w1 : w.length.ble w.length = true := AM' (Yd)
 have w2 : ∀ σ : Nat -> Nat, List.take (w.length * 1) (List.drop 0 (AV.rens σ (rowV encB w))) = rowV encB w := fun σ => by
  rw [A4', List.drop_zero, List.take_of_length_le (by rw [hrl, Nat.mul_one]; exact Yd)]
 have w3 : (rowV encB w).length.beq (w.length * 1) = true := by rw [hrl, Nat.mul_one]; exact Nat.beq_refl _
 have w4 : (rowV encB w).all AV.one = true := by have := LC' w (fun x => x); rwa [w2] at this
 have w5 : (w.length * 1).ble 140737488355328 = true := AM' ω; have w6 : w.length.ble 9223372036854775807 = true := AM' ω
 refine AW' (con := conOz w.length w) (hints := hOz w.length) (lc := []) kOz rfl (fun F hF => AJ' (RO' F) (AJ' (GI' (UL' _) (fun K => ⟨Ye, Ye, Ye⟩) (fun K => trivial) F) (AJ' (P3' F) (AJ' (hW F hF) (AJ' (GI' (IY' _) (fun K => ⟨Ye, Ye⟩) (fun K => trivial) F) (C6' (hcl F))))))) (fun F _ => noL) fun F => ?_
 refine Yj (VN' W w.length w F) ⟨fun _ => ⟨fun h => (by cases h), fun _ => ⟨?_, (B6' (vs' := [.tuple [.ptr 1020 0, .slice 1021 0 1 1 (.lo 1), iv 0]]) (H' := [(0, dkC nilS (o' w.length)), (1001, mpO mSt mCk), (1002, fiC w.length w.length), (1003, rB w), (1004, rB w), (1020, lgC (o' w.length)), (1021, .cells [nilS] tRb)]) [(1001, 1001), (1002, 1104), (1003, 1108), (1004, 1110), (1020, 1100), (1021, 1111)] χ χ (VW.cons (TZ' (VW.cons Ya (VW.cons (Q9' (Yd)) (Yb)))) (Yb)) ⟨⟨_, rfl, Yc⟩, ⟨_, rfl, Yc⟩, ⟨_, rfl, Yc⟩, ⟨_, rfl, AP' (A4' _ _) rfl⟩, ⟨_, rfl, AP' (A4' _ _) rfl⟩, ⟨_, rfl, Yc⟩, ⟨_, rfl, Yc⟩, Ye⟩).fits χ⟩⟩, fun h => (by cases h)⟩
 simp only [Cnd.holds, Nat.blt_eq, true_and, and_true, w1, w2, w3, w4, w5, w6, h0]; and_intros; all_goals first | (with_reducible exact Ye) | (with_reducible exact rfl) | (with_reducible exact Ya) | (with_reducible exact Yb) | (with_reducible exact Yc) | (with_reducible exact A3' f2) | (with_reducible exact AZ' hus) | (with_reducible exact A3' rfl) | exact IK' _ | exact .inl trivial | exact .inr trivial | exact A3' rfl | exact rfl | exact Ya | exact Yb | exact Yc | (refine OW.of_eq ?_; simp only [AO.ren, A4']; done) | exact Ye
theorem wo_z (W : World) (hN : LN W) : Tri Θ W fWo [.ptr 0 0, sv nmL] [(0, dZ)] (.tuple [.ptr 1020 0, .slice 1021 0 1 1 (.lo 1), iv 0]) [(0, dO [[]] []), (1020, lgC (o' (cat [[]]).length)), (1021, .cells [nilS] tRb)] := by
 have hl : (AR' []).length = 8 := B3' []; refine open_z ?_; have := wo_run W (AR' []) (fun F hF => cWz_ok hN F hF) (fun F => DY' (l := AR' []) (by rw [hl]; decide) ω F) ω ω; rw [<- Y0'] at this; exact Tri.post this (RB' (S := [[]]) (H0 := [(1020, lgC (o' (cat [[]]).length)), (1021, .cells [nilS] tRb)]) (by rfl) χ ⟨⟨rfl, rfl, Ye, Ye⟩, Ye⟩ (A0' ⟨rfl, Ye, Ye, Ye, Ye⟩ (A0' ⟨Ye, Ye⟩ A2')))
end Go.Proofs.YtgahllbgipdchaaGreatDoor.Wk
namespace Go.Proofs.YtgahllbgipdchaaGreatDoor.Eng
open Go Go.RowKit Tree
variable {W w : World}
def frzW (W w : World) (D : Nat -> Prop) : World := { w with heap := Array.ofFn (n := max W.heap.size w.heap.size) fun b => by classical exact if D b then (w.heap[b.1]?).getD (.map #[] 0) else (W.heap[b.1]?).getD (.map #[] 0) }
theorem K1' {D : Nat -> Prop} {b : Nat} (hb : b < max W.heap.size w.heap.size) : (frzW W w D).heap[b]? = some (by classical exact if D b then (w.heap[b]?).getD (.map #[] 0) else (W.heap[b]?).getD (.map #[] 0)) := by
 simp only [frzW, Array.getElem?_ofFn, hb, dif_pos]
theorem NO' {D : Nat -> Prop} {a : Addr} (hD : D a.block) (hlt : a.block < w.heap.size) : (frzW W w D).cell? a = w.cell? a := by
 have h := K1' (W := W) (w := w) (D := D) (b := a.block) ω; rw [if_pos hD, Array.getElem?_eq_getElem hlt] at h; simp only [World.cell?, h, Array.getElem?_eq_getElem hlt, Option.getD_some]
theorem OW' {D : Nat -> Prop} {a : Addr} (hD : ¬ D a.block) : (frzW W w D).cell? a = W.cell? a := by
 by_cases hb : a.block < max W.heap.size w.heap.size
 ·have h := K1' (W := W) (w := w) (D := D) (b := a.block) hb; rw [if_neg hD] at h; simp only [World.cell?, h]
  cases hW : W.heap[a.block]? with
  | none => simp
  | some o => simp
 ·have h1 : (frzW W w D).heap[a.block]? = none := by
   apply Array.getElem?_eq_none; simp only [frzW, Array.size_ofFn]; omega
  have h2 : W.heap[a.block]? = none := Array.getElem?_eq_none ω; simp only [World.cell?, h1, h2]
def frzF (F : HP) (w : World) (Dk : Nat -> Prop) (hk : ∀ b, Dk b -> b < w.heap.size) : HP where
 on D w' := ∃ D0, F.on D0 w' /\ (∀ b, D b ↔ D0 b \/ Dk b) /\ (∀ b, Dk b -> ¬ D0 b) /\ ∀ b, Dk b -> w'.heap[b]? = w.heap[b]?
 far {D w1 w2} hf := fun ⟨D0, h1, h2, h3, h4⟩ => ⟨D0, F.far (fun b hb => hf b ((h2 b).2 (.inl hb))) h1, h2, h3, fun b hb => (hf b ((h2 b).2 (.inr hb))).trans (h4 b hb)⟩
 lt {D w1} := fun ⟨D0, h1, h2, h3, h4⟩ b hb => by
  rcases (h2 b).1 hb with hb | hb
  ·exact F.lt h1 b hb
  ·have := h4 b hb; rw [Array.getElem?_eq_getElem (hk b hb)] at this; exact (Array.getElem?_eq_some_iff.1 this).1
theorem QG' {P : Program} {f : FuncId} {A : List AV} {H1 H1' : LH} {v : AV} {PR : Mem -> Prop} (k : Nat) (hk : 1000 <= k /\ k < 1100) (hk1 : getO H1 k = none) (hk1' : getO H1' k = none) (hl : AA' 1100 H1 = true) (hl' : AA' 1100 H1' = true)
  (hA : AV.cls (fun n => Nat.blt n 1000 || (getO H1 n).isSome) A) (hH : ∀ x ∈ H1, x.2.cl (fun n => Nat.blt n 1000 || (getO H1 n).isSome))
  (hm : ∀ C C' : Mem, (∀ a v, C a = some v -> C' a = some v) -> PR C -> PR C')
  (h : ∀ W' : World, (∀ a v, W.cell? a = some v -> W'.cell? a = some v) -> PR W'.cell? -> Tri P W' f A H1 v H1') : Tri P W f A (H1 ++ [(k, .any (frz PR))]) v (H1' ++ [(k, .any (frz PR))]) := by
 have hlk : AA' 1100 [(k, AO.any (frz PR))] = true := by simp only [AA', List.all_cons, List.all_nil, Bool.and_true, Nat.blt_eq]; exact hk.2
 have e1 : ∀ (G : LH) (i : Nat), i ≠ k -> getO (G ++ [(k, AO.any (frz PR))]) i = getO G i := fun G i hi => by
  rw [BE']
  cases getO G i with
  | some o => rfl
  | none => simp only [getO, if_neg hi]
 have e2 : ∀ (G : LH), getO G k = none -> getO (G ++ [(k, AO.any (frz PR))]) k = some (.any (frz PR)) := fun G hG => by
  rw [BE', hG]; simp [getO]
 intro W0 F N w vargs hF hNB r ha; have hfA : ∀ i, (AO' (H1 ++ [(k, .any (frz PR))])).find i = getO (H1 ++ [(k, .any (frz PR))]) i := AD' (D5' (BY' hl hlk)); have hfA' : ∀ i, (AO' (H1' ++ [(k, .any (frz PR))])).find i = getO (H1' ++ [(k, .any (frz PR))]) i := AD' (D5' (BY' hl' hlk)); have hf1 : ∀ i, (AO' H1).find i = getO H1 i := AD' (D5' hl); have hf1' : ∀ i, (AO' H1').find i = getO H1' i := AD' (D5' hl'); obtain ⟨D0, D, h1, h2, h3⟩ := r.sat; obtain ⟨⟨hP, hlt⟩, hdis⟩ := h2 k _ (by rw [hfA, e2 H1 hk1])
 have hW : ∀ a v, W.cell? a = some v -> (frzW W w (D k)).cell? a = some v := fun a v hv => by
  by_cases hD : D k a.block
  ·rw [NO' hD (hlt _ hD)]; exact hF D0 w h1 a v hv
  ·rw [OW' hD]; exact hv
 have hPW : PR (frzW W w (D k)).cell? := hm _ _ (fun a v hv => by
  obtain ⟨q1, q2⟩ := EQ' hv
  rw [NO' q1 (hlt _ q1)]; exact q2) hP
 have hOld : AL' (frzW W w (D k)) (frzF F w (D k) hlt) := fun D1 w1 ⟨D2, q1, q2, q3, q4⟩ a v hv => by
  by_cases hD : D k a.block
  ·rw [NO' hD (hlt _ hD)] at hv; rw [<- hv]; exact P2' (q4 _ hD)
  ·rw [OW' hD] at hv; exact hF D2 w1 q1 a v hv
 have hne : ∀ i o, getO H1 i = some o -> i ≠ k := fun i o hi e => by rw [e, hk1] at hi; cases hi
 have r1 : Rep W0 N (frzF F w (D k) hlt) (AO' H1) w := ⟨r.os, r.tape, r.output, fun b => D0 b \/ D k b, D, ⟨D0, h1, fun b => Iff.rfl, hdis, fun b _ => rfl⟩, fun i o hi => by
   rw [hf1] at hi; obtain ⟨q1, q2⟩ := h2 i o (by rw [hfA, e1 H1 i (hne i o hi)]; exact hi)
   exact ⟨q1, fun b hb hb' => hb'.elim (q2 b hb) (h3 i k o _ (by rw [hfA, e1 H1 i (hne i o hi)]; exact hi) (by rw [hfA, e2 H1 hk1]) (hne i o hi) b hb)⟩, fun i j o o' hi hj hij => by
   rw [hf1] at hi hj
   exact h3 i j o o' (by rw [hfA, e1 H1 i (hne i o hi)]; exact hi) (by rw [hfA, e1 H1 j (hne j o' hj)]; exact hj) hij⟩
 obtain ⟨N1, g1, g2, g3, g4⟩ := GE' (N := N) hl (fun _ _ => rfl) r1 ha hA hH; refine (h (frzW W w (D k)) hW hPW W0 (frzF F w (D k) hlt) N1 w vargs hOld g2 g3 g4).mono ?_; rintro e w' ⟨y, rfl, N2, p1, p2, p3, p4⟩
 refine ⟨y, rfl, N2, fun i hi => (p1 i hi).trans (g1 i hi), fun i hi hn => p2 i hi ?_, ?_, p4⟩
 ·by_cases hik : i = k
  ·rw [hik]; exact hk1'
  ·rw [e1 H1' i hik] at hn; exact hn
 ·obtain ⟨B0, B, ⟨C0, q1, q2, q3, q4⟩, k2, k3⟩ := p3.sat
  have hne' : ∀ i o, getO H1' i = some o -> i ≠ k := fun i o hi e => by rw [e, hk1'] at hi; cases hi
  have key : ∀ i o, i ≠ k -> getO (H1' ++ [(k, AO.any (frz PR))]) i = some o -> (AO' H1').find i = some o := fun i o hik hi => by
   rw [hf1']; rw [e1 H1' i hik] at hi; exact hi
  refine ⟨p3.os, p3.tape, p3.output, C0, fun i b => if i = k then D k b else B i b, q1, fun i o hi => ?_, fun i j o o' hi hj hij b hbi hbj => ?_⟩
  ·rw [hfA'] at hi
   by_cases hik : i = k
   ·subst hik; rw [e2 H1' hk1'] at hi; cases hi; simp only [if_true]
    refine ⟨⟨?_, fun b hb => ?_⟩, q3⟩
    ·rw [LX' (w := w) q4]; exact hP
    ·have := q4 b hb; rw [Array.getElem?_eq_getElem (hlt b hb)] at this; exact (Array.getElem?_eq_some_iff.1 this).1
   ·simp only [if_neg hik]; obtain ⟨q5, q6⟩ := k2 i o (key i o hik hi)
    exact ⟨q5, fun b hb hb' => q6 b hb ((q2 b).2 (.inl hb'))⟩
  ·rw [hfA'] at hi hj
   by_cases hik : i = k
   ·have hjk : j ≠ k := fun e => hij (hik.trans e.symm)
    simp only [if_pos hik] at hbi; simp only [if_neg hjk] at hbj; exact (k2 j o' (key j o' hjk hj)).2 b hbj ((q2 b).2 (.inr hbi))
   ·simp only [if_neg hik] at hbi
    by_cases hjk : j = k
    ·simp only [if_pos hjk] at hbj; exact (k2 i o (key i o hik hi)).2 b hbi ((q2 b).2 (.inr hbj))
    ·simp only [if_neg hjk] at hbj; exact k3 i j o o' (key i o hik hi) (key j o' hjk hj) hij b hbi hbj
end Go.Proofs.YtgahllbgipdchaaGreatDoor.Eng
namespace Go.Proofs.YtgahllbgipdchaaGreatDoor.Wk
open Go Go.RowKit Eng Kit Tree
open Int renaming ofNat -> o'
open Go.Value renaming string -> vs'
open Go.Value renaming int -> vi'
open AO renaming cells -> ce'
open AV renaming v -> v'
open AV renaming ptr -> pt'
open Go.IntKind renaming i64 -> I'
open Cnd renaming holds -> ch'
open Nat renaming blt_eq -> bl'
open List renaming length_append -> la'
open Go.Value renaming slice -> sl'
variable {W : World} {o : Nat}
noncomputable section
abbrev fCr : Nat := 19
abbrev tFt : TypeId := 2 * 47
abbrev tAf : TypeId := 2 * 54
def stW (at' : Nat) (a : Addr) (m c : Nat) : AO := .cells [sv nm1, iv (o' at'), slV (some a) m c] tPw
structure Dp where
 us : Int
 p : Nat
 q : Nat
 da : Bs
 sa : Bs
 V : List Value
 z : Nat
 ok : Option Addr
 nk : Nat
 ck : Nat
 tr : Int
def oC0 (us : Int) (p q : Nat) (da sa : Bs) (V : List Value) (z : Nat) (ok : Option Addr) (nk ck : Nat) (tr : Int) : LH := [(0, dkC (pV z) us), (1001, mpO mSt mCk), (1002, fiC p q), (1003, rB da), (1004, rB sa), (1005, .cells (vmap V) tPw), (1010, .cells [slV ok nk ck, iv tr] tFt)]
def lfM (x : AV) : AO := .map [(sv nm1, x, 0)] 1
def aPd (a : Addr) (q c n z i : Nat) : List (Nat × AV) := [(0, .ptr 0 0), (3, .ptr 1010 0), (4, nilS), (5, .map 1011), (9, .ptr 1013 0), (10, slV (some a) q c), (11, .slice 1012 0 n 1 (.lo n)), (35, pV z), (36, iv (o' z)), (37, iv (o' i))]
def oPd (at' : Nat) (a : Addr) (m c : Nat) (b : Bs) : LH := [(1011, lfM .any), (1012, rB b), (1013, stW at' a m c)]
def kPd : List Nat := [0, 1001, 1002, 1003, 1004, 1005, 1010, 1011, 1012, 1013, 1100, 1101, 1102, 1103]
abbrev k35' (q0 q1 : Nat) : Cnd := (f' (Wk (z' (IntKind.i64.wrap (o' q0 + ↑q1))) (i' (q0 + q1))))
abbrev k36' (q0 : Nat) : Cnd := (ee' (i' q0))
theorem WB' (W : World) (us tr : Int) (pp qq z i nk ck : Nat) (ok : Option Addr) (da sa : Bs) (V : List Value) (at' q m c0 c n : Nat) (a : Addr) (b : Bs) (F : HP) : B9' [] (AG' [(fCr, 14, 6, hv (iv (o' (at' + q)))), ht' fCr 14 7]) [] W fCr (A8' fCr 14) (tms 0 120 (aPd a q c n z i)) (oC0 us pp qq da sa V z ok nk ck tr ++ oPd at' a m c0 b) kPd [0, 3, 4, 5, 9, 10, 11, 35, 36, 37] F = VT.leaf (AX.normal,[pt' 0 0,pt' 1010 0,e',AV.map 1011,pt' 1013 0,v' (sl' (some a) q c),AV.slice 1101 0 (n + 1) 1 (Cp.lo (n + 1)),AV.slice 1005 0 z 3 (Cp.lo z),i' z,i' i],120) [some (ce' [AV.map 1001,AV.slice 1005 0 z 3 (Cp.lo z),i' 1099511627776,z' us] 142),some (AO.map [(s' nm1,pt' 1002 0,0)] 1),some (ce' [AV.slice 1003 0 pp 1 (Cp.lo pp),AV.slice 1004 0 qq 1 (Cp.lo qq)] 148),some (ce' (rowV encB da) 10),some (ce' (rowV encB sa) 10),some (ce' (vmap V) 182),some (ce' [v' (sl' ok nk ck),z' tr] 94),some (AO.map [(s' nm1,a',0)] 1),none,some (ce' [s' nm1,i' at',v' (sl' (some a) m c0)] 182),some (ce' [v' (vi' IntKind.u8 (o' 0))] 10),some (ce' (List.take (n * 1) (List.drop 0 (rowV encB b)) ++ [v' (vi' IntKind.u8 (o' 0))]) 10),none,none] 1102 ((k36' at').a ((k35' at' q).a ((wb' (decide (↑n < o' (at' + q))) j').a ((tt'.a (tt'.a (tt'.a (tt'.a ((p' ((0 + n * 1).ble (rowV encB b).length = true)).a ((p' (((n + 1) * 1).ble 140737488355328 = true)).a ((p' ((n + 1).ble 9223372036854775807 = true)).a (f' ((List.take (n * 1) (List.drop 0 (rowV encB b))).length.beq (n * 1) = true))))))))).a k1')))) := χ
theorem WC' (W : World) (us tr : Int) (pp qq z i nk ck : Nat) (ok : Option Addr) (da sa : Bs) (V : List Value) (at' q m c0 c n : Nat) (a : Addr) (b : Bs) (F : HP) : B9' [] (AG' [(fCr, 14, 6, hv (iv (o' (at' + q)))), hf' fCr 14 7]) [] W fCr (A8' fCr 14) (tms 0 120 (aPd a q c n z i)) (oC0 us pp qq da sa V z ok nk ck tr ++ oPd at' a m c0 b) kPd [0, 3, 4, 5, 9, 10, 11, 35, 36, 37] F = VT.leaf (AX.exit 4,[pt' 0 0,pt' 1010 0,e',AV.map 1011,pt' 1013 0,v' (sl' (some a) q c),AV.slice 1012 0 n 1 (Cp.lo n),AV.slice 1005 0 z 3 (Cp.lo z),i' z,i' i],120) [some (ce' [AV.map 1001,AV.slice 1005 0 z 3 (Cp.lo z),i' 1099511627776,z' us] 142),some (AO.map [(s' nm1,pt' 1002 0,0)] 1),some (ce' [AV.slice 1003 0 pp 1 (Cp.lo pp),AV.slice 1004 0 qq 1 (Cp.lo qq)] 148),some (ce' (rowV encB da) 10),some (ce' (rowV encB sa) 10),some (ce' (vmap V) 182),some (ce' [v' (sl' ok nk ck),z' tr] 94),some (AO.map [(s' nm1,a',0)] 1),some (ce' (rowV encB b) 10),some (ce' [s' nm1,i' at',v' (sl' (some a) m c0)] 182),none,none,none,none] 1100 ((k36' at').a ((k35' at' q).a ((wb' (decide (↑n < o' (at' + q))) g').a k1'))) := χ
def aCr (z i : Nat) : List (Nat × AV) := [(0, .ptr 0 0), (3, .ptr 1010 0), (4, nilS), (5, .map 1011), (35, pV z), (36, iv (o' z)), (37, iv (o' i))]
def oCr (n : Nat) (b : Bs) : LH := [(1011, lfM (sB 1012 n)), (1012, rB b)]
def kCr : List Nat := [0, 1001, 1002, 1003, 1004, 1005, 1010, 1011, 1012, 1100, 1101, 1102, 1103, 1104, 1105, 1106, 1107, 1108, 1109, 1110, 1111]
def h8 (at' : Nat) (a : Addr) (m c i : Nat) : List (FuncId × Nat × Nat × Hint) := [ht' fCr 7 0, (fCr, 8, 2, hv (.agg [sv nm1, iv (o' at'), slV (some a) m c])), (fCr, 18, 0, hv (iv (o' (i + 1))))]
def ixC : List Nat := [0, 3, 4, 5, 35, 36, 37]
def lPd (us tr : Int) (pp qq z i nk ck : Nat) (ok : Option Addr) (da sa : Bs) (V : List Value) (at' q m c0 c n n' : Nat) (a : Addr) (b b' : Bs) : List AV -> AP (AX × List AV) := mkL (fun tmps => match tmps.getD 9 .any with | .ptr i 0 => .ret i | _ => .fail "pad") (fun _ => True) (fun j k => match Nat.beq k 1013 with | true => j | false => k) (fun _ => tms 0 120 (aPd a q c n z i)) (fun _ => oC0 us pp qq da sa V z ok nk ck tr ++ oPd at' a m c0 b) (fun _ => .leaf (.exit 4) (tms 0 120 (aPd a q c n' z i)) (oC0 us pp qq da sa V z ok nk ck tr ++ oPd at' a m c0 b'))
theorem XA' (W : World) (us tr : Int) (pp qq z i nk ck : Nat) (ok : Option Addr) (da sa : Bs) (V : List Value) (n : Nat) (b : Bs) (F : HP) : B9' [] (AG' [hf' fCr 7 0]) [] W fCr (A8' fCr 7) (tms 0 120 (aCr z i)) (oC0 us pp qq da sa V z ok nk ck tr ++ oCr n b) kCr ixC F = VT.leaf (AX.exit 2,[pt' 0 0,pt' 1010 0,e',AV.map 1011,AV.slice 1005 0 z 3 (Cp.lo z),i' z,i' i],120) [some (ce' [AV.map 1001,AV.slice 1005 0 z 3 (Cp.lo z),i' 1099511627776,z' us] 142),some (AO.map [(s' nm1,pt' 1002 0,0)] 1),some (ce' [AV.slice 1003 0 pp 1 (Cp.lo pp),AV.slice 1004 0 qq 1 (Cp.lo qq)] 148),some (ce' (rowV encB da) 10),some (ce' (rowV encB sa) 10),some (ce' (vmap V) 182),some (ce' [v' (sl' ok nk ck),z' tr] 94),some (AO.map [(s' nm1,AV.slice 1012 0 n 1 (Cp.lo n),0)] 1),some (ce' (rowV encB b) 10),none,none,none,none,none,none,none,none,none,none,none,none] 1100 ((k29' i z).a k1') := χ
abbrev k37' : Cnd := (f' (Wk j' j'))
theorem XD' (W : World) (us tr : Int) (pp qq z i nk ck : Nat) (ok : Option Addr) (da sa : Bs) (V : List Value) (at' m c n : Nat) (a : Addr) (b : Bs) (F : HP) : B9' [] (AG' (h8 at' a m c i ++ [ht' fCr 9 4, ht' fCr 9 12])) [] W fCr (A8' fCr 7) (tms 0 120 (aCr z i)) (oC0 us pp qq da sa V z ok nk ck tr ++ oCr n b) kCr ixC F = VT.leaf (AX.normal,[pt' 0 0,pt' 1010 0,e',AV.map 1011,AV.slice 1005 0 z 3 (Cp.lo z),i' z,i' (i + 1)],120) [some (ce' [AV.map 1001,AV.slice 1005 0 z 3 (Cp.lo z),i' 1099511627776,z' us] 142),some (AO.map [(s' nm1,pt' 1002 0,0)] 1),some (ce' [AV.slice 1003 0 pp 1 (Cp.lo pp),AV.slice 1004 0 qq 1 (Cp.lo qq)] 148),some (ce' (rowV encB da) 10),some (ce' (rowV encB sa) 10),some (ce' (vmap V) 182),some (ce' [v' (sl' ok nk ck),z' tr] 94),some (AO.map [(s' nm1,AV.slice 1012 0 n 1 (Cp.lo n),0)] 1),some (ce' (rowV encB b) 10),some (ce' [s' nm1,i' at',v' (sl' (some a) m c)] 182),none,none,none,none,none,none,none,none,none,none,none] 1101 ((wb' (decide (o' i < o' z)) j').a ((f' (i.blt z = true)).a (((p' ((List.take 3 (List.drop (0 + i * 3) (vmap V))).length.beq 3 = true)).a ((p' (List.take 3 (List.drop (0 + i * 3) (vmap V)) = [v' (vs' ((List.take 3 (List.drop (0 + i * 3) (vmap V))).getD 0 (u')).strOf),v' (vi' I' ((List.take 3 (List.drop (0 + i * 3) (vmap V))).getD 1 (u')).intOf),(List.take 3 (List.drop (0 + i * 3) (vmap V))).getD 2 (u')])).a (f' (Wk (AV.agg [v' (vs' ((List.take 3 (List.drop (0 + i * 3) (vmap V))).getD 0 (u')).strOf),v' (vi' I' ((List.take 3 (List.drop (0 + i * 3) (vmap V))).getD 1 (u')).intOf),(List.take 3 (List.drop (0 + i * 3) (vmap V))).getD 2 (u')]) (AV.agg [s' nm1,i' at',v' (sl' (some a) m c)]))))).a (k8'.a (k8'.a ((wb' (decide (o' i >= ↑nk)) j').a (k37'.a ((k2' i).a k1')))))))) := χ
theorem X8' (W : World) (us tr : Int) (pp qq z i nk ck : Nat) (ak : Addr) (da sa : Bs) (V : List Value) (at' m c n : Nat) (a : Addr) (b : Bs) (F : HP) : B9' [] (AG' (h8 at' a m c i ++ [hf' fCr 9 4, hf' fCr 9 10, ht' fCr 9 11, ht' fCr 9 12])) [] W fCr (A8' fCr 7) (tms 0 120 (aCr z i)) (oC0 us pp qq da sa V z (some ak) nk ck tr ++ oCr n b) kCr ixC F = VT.leaf (AX.normal,[pt' 0 0,pt' 1010 0,e',AV.map 1011,AV.slice 1005 0 z 3 (Cp.lo z),i' z,i' (i + 1)],120) [some (ce' [AV.map 1001,AV.slice 1005 0 z 3 (Cp.lo z),i' 1099511627776,z' us] 142),some (AO.map [(s' nm1,pt' 1002 0,0)] 1),some (ce' [AV.slice 1003 0 pp 1 (Cp.lo pp),AV.slice 1004 0 qq 1 (Cp.lo qq)] 148),some (ce' (rowV encB da) 10),some (ce' (rowV encB sa) 10),some (ce' (vmap V) 182),some (ce' [v' (sl' (some ak) nk ck),z' tr] 94),some (AO.map [(s' nm1,AV.slice 1012 0 n 1 (Cp.lo n),0)] 1),some (ce' (rowV encB b) 10),some (ce' [s' nm1,i' at',v' (sl' (some a) m c)] 182),none,none,none,none,none,none,none,none,none,none,none] 1101 ((wb' (decide (o' i < o' z)) j').a ((f' (i.blt z = true)).a (((p' ((List.take 3 (List.drop (0 + i * 3) (vmap V))).length.beq 3 = true)).a ((p' (List.take 3 (List.drop (0 + i * 3) (vmap V)) = [v' (vs' ((List.take 3 (List.drop (0 + i * 3) (vmap V))).getD 0 (u')).strOf),v' (vi' I' ((List.take 3 (List.drop (0 + i * 3) (vmap V))).getD 1 (u')).intOf),(List.take 3 (List.drop (0 + i * 3) (vmap V))).getD 2 (u')])).a (f' (Wk (AV.agg [v' (vs' ((List.take 3 (List.drop (0 + i * 3) (vmap V))).getD 0 (u')).strOf),v' (vi' I' ((List.take 3 (List.drop (0 + i * 3) (vmap V))).getD 1 (u')).intOf),(List.take 3 (List.drop (0 + i * 3) (vmap V))).getD 2 (u')]) (AV.agg [s' nm1,i' at',v' (sl' (some a) m c)]))))).a (k8'.a (k8'.a ((wb' (decide (o' i >= ↑nk)) g').a (k8'.a ((f' (i.blt nk = true)).a (((p' ((W.cell? (ak.add (i * 1))).isSome = true)).a ((p' ((v' ((W.cell? (ak.add (i * 1))).getD (Value.tuple (Array.mk [])))).bool? = some (v' ((W.cell? (ak.add (i * 1))).getD (Value.tuple (Array.mk [])))).boolOf)).a (f' (Wk (v' (Value.bool (v' ((W.cell? (ak.add (i * 1))).getD (Value.tuple (Array.mk [])))).boolOf)) g')))).a (k22'.a (k37'.a ((k2' i).a k1')))))))))))) := χ
def h9 : List (FuncId × Nat × Nat × Hint) := [hf' fCr 9 4, ht' fCr 9 10, hf' fCr 9 11, hf' fCr 9 12, (fCr, 13, 4, ho 1011 (lfM .any))]
abbrev h38' (q0 q1 q2 : Nat) (q3 : World) (q4 : Addr) (q5 q6 q7 q8 q9 q10 q11 q12 q13 q14 q15 : Nat) (q16 : Bs) (z : Cnd) : Cnd := ((ee' (i' q0)).a (((p' (q0.ble q1 = true)).a ((p' (q1.ble q1 = true)).a (f' (q1.ble q1 = true)))).a (((p' ((q2.min (q1 - q0)).ble q2 = true)).a ((p' (((List.range (q2.min (q1 - q0) * 1)).all fun j => (q3.cell? (q4.add j)).isSome) = true)).a ((p' ((vmap (AN' q3 q4 (q2.min (q1 - q0) * 1))).all AV.one = true)).a (f' ((0 + q0 * 1 + (vmap (AN' q3 q4 (q2.min (q1 - q0) * 1))).length).ble (AV.rens (sgN (fun k => match k.beq q5 with | true => q6 | false => k) [q7,q8,q9,q10,q11,q12,q13,q14,q5] q15) (rowV encB q16)).length = true))))).a ((ee' (s' nm1)).a z))))
abbrev h39' (q0 q1 q2 : Nat) (q3 : Int) (q4 q5 q6 q7 q8 : Nat) (q9 : Bs) (q10 q11 : Nat) (q12 : Bs) (q13 : List Value) (q14 : Addr) (q15 q16 : Nat) (q17 : Int) (q18 : Bs) (q19 : Nat) (q20 : Addr) (q21 q22 : Nat) (z : Cnd) : Cnd := ((ow' (ce' [AV.map q0,AV.slice q1 0 q2 3 (Cp.lo q2),i' 1099511627776,z' q3] 142)).a ((ow' (AO.map [(s' nm1,pt' q4 0,0)] 1)).a ((ow' (ce' [AV.slice q5 0 q6 1 (Cp.lo q6),AV.slice q7 0 q8 1 (Cp.lo q8)] 148)).a ((p' (OW (ce' (rowV encB q9) 10) (ce' (AV.rens (fun k => match k.beq q10 with | true => q11 | false => k) (rowV encB q9)) 10))).a ((p' (OW (ce' (rowV encB q12) 10) (ce' (AV.rens (fun k => match k.beq q10 with | true => q11 | false => k) (rowV encB q12)) 10))).a ((p' (OW (ce' (vmap q13) 182) (ce' (AV.rens (fun k => match k.beq q10 with | true => q11 | false => k) (vmap q13)) 182))).a ((ow' (ce' [v' (sl' (some q14) q15 q16),z' q17] 94)).a ((ow' (AO.map [(s' nm1,a',0)] 1)).a ((p' (OW (ce' (rowV encB q18) 10) (ce' (AV.rens (fun k => match k.beq q10 with | true => q11 | false => k) (rowV encB q18)) 10))).a ((ow' (ce' [s' nm1,i' q19,v' (sl' (some q20) q21 q22)] 182)).a z))))))))))
abbrev k40' (q0 q1 : Nat) : Cnd := (f' (OW (AO.map [(s' nm1,AV.slice q0 0 q1 1 (Cp.lo q1),0)] 1) (AO.map [(s' nm1,a',0)] 1)))
abbrev k41' : Cnd := (f' (Wk g' g'))
abbrev h42' (q0 q1 : Nat) (q2 : List Value) (q3 : Nat) (q4 : Addr) (q5 q6 q7 : Nat) (q8 : World) (q9 : Addr) (z : Cnd) : Cnd := ((wb' (decide (o' q0 < o' q1)) j').a ((f' (q0.blt q1 = true)).a (((p' ((List.take 3 (List.drop (0 + q0 * 3) (vmap q2))).length.beq 3 = true)).a ((p' (List.take 3 (List.drop (0 + q0 * 3) (vmap q2)) = [v' (vs' ((List.take 3 (List.drop (0 + q0 * 3) (vmap q2))).getD 0 (u')).strOf),v' (vi' I' ((List.take 3 (List.drop (0 + q0 * 3) (vmap q2))).getD 1 (u')).intOf),(List.take 3 (List.drop (0 + q0 * 3) (vmap q2))).getD 2 (u')])).a (f' (Wk (AV.agg [v' (vs' ((List.take 3 (List.drop (0 + q0 * 3) (vmap q2))).getD 0 (u')).strOf),v' (vi' I' ((List.take 3 (List.drop (0 + q0 * 3) (vmap q2))).getD 1 (u')).intOf),(List.take 3 (List.drop (0 + q0 * 3) (vmap q2))).getD 2 (u')]) (AV.agg [s' nm1,i' q3,v' (sl' (some q4) q5 q6)]))))).a ((fe' true).a ((fe' true).a ((wb' (decide (o' q0 >= ↑q7)) g').a ((fe' true).a ((f' (q0.blt q7 = true)).a (((p' ((q8.cell? (q9.add (q0 * 1))).isSome = true)).a ((p' ((v' ((q8.cell? (q9.add (q0 * 1))).getD (Value.tuple (Array.mk [])))).bool? = some (v' ((q8.cell? (q9.add (q0 * 1))).getD (Value.tuple (Array.mk [])))).boolOf)).a (f' (Wk (v' (Value.bool (v' ((q8.cell? (q9.add (q0 * 1))).getD (Value.tuple (Array.mk [])))).boolOf)) j')))).a ((f' (Wk (b' false) g')).a ((f' (Wk g' g')).a ((fe' true).a ((fe' true).a z)))))))))))))
theorem XC' (W : World) (us tr : Int) (pp qq z i nk ck : Nat) (ak : Addr) (da sa : Bs) (V : List Value) (at' m c n n' : Nat) (a : Addr) (b b' : Bs) (F : HP) : B9' [] (AG' (h8 at' a m c i ++ (h9 ++ [hf' fCr 11 7, hf' fCr 11 12]))) [(fCr, 14, A8' fCr 14, lPd us tr pp qq z i nk ck (some ak) da sa V at' m m c c n n' a b b')] W fCr (A8' fCr 7) (tms 0 120 (aCr z i)) (oC0 us pp qq da sa V z (some ak) nk ck tr ++ oCr n b) kCr ixC F = VT.leaf (AX.normal,[pt' 0 0,pt' 1106 0,e',AV.map 1107,AV.slice 1105 0 z 3 (Cp.lo z),i' z,i' (i + 1)],120) [some (ce' [AV.map 1101,AV.slice 1105 0 z 3 (Cp.lo z),i' 1099511627776,z' us] 142),none,none,none,none,none,none,none,none,none,some (AO.map [(s' nm1,pt' 1102 0,0)] 1),some (ce' [AV.slice 1103 0 pp 1 (Cp.lo pp),AV.slice 1104 0 qq 1 (Cp.lo qq)] 148),some (ce' (AV.rens (sgN (fun k => match k.beq 1013 with | true => 1100 | false => k) [1001,1002,1003,1004,1005,1010,1011,1012,1013] 1101) (rowV encB da)) 10),some (ce' (AV.rens (sgN (fun k => match k.beq 1013 with | true => 1100 | false => k) [1001,1002,1003,1004,1005,1010,1011,1012,1013] 1101) (rowV encB sa)) 10),some (ce' (AV.rens (sgN (fun k => match k.beq 1013 with | true => 1100 | false => k) [1001,1002,1003,1004,1005,1010,1011,1012,1013] 1101) (vmap V)) 182),some (ce' [v' (sl' (some ak) nk ck),z' tr] 94),some (AO.map [(s' nm1,AV.slice 1108 0 n' 1 (Cp.lo n'),0)] 1),some (ce' (splice (AV.rens (sgN (fun k => match k.beq 1013 with | true => 1100 | false => k) [1001,1002,1003,1004,1005,1010,1011,1012,1013] 1101) (rowV encB b')) (0 + at' * 1) (vmap (AN' W a (m.min (n' - at') * 1)))) 10),some (ce' [s' nm1,i' at',v' (sl' (some a) m c)] 182),none,none] 1110 (h42' i z V at' a m c nk W ak ((wb' (o' i == IntKind.i64.wrap (↑z - o' 1)) g').a (k41'.a (k28'.a ((f' (findKey Tryz.prog (envW [] (AG' [(19,7,0,hv j'),(19,8,2,hv (AV.agg [s' nm1,i' at',v' (sl' (some a) m c)])),(19,18,0,hv (i' (i + 1))),(19,9,4,hv g'),(19,9,10,hv j'),(19,9,11,hv g'),(19,9,12,hv g'),(19,13,4,ho 1011 (AO.map [(s' nm1,a',0)] 1)),(19,11,7,hv g'),(19,11,12,hv g')]) [(19,14,A8' 19 14,lPd us tr pp qq z i nk ck (some ak) da sa V at' m m c c n n' a b b')] W F) 9 (s' nm1) [(s' nm1,AV.slice 1012 0 n 1 (Cp.lo n),0)] 0 = AP.ret (some (0,AV.slice 1012 0 n 1 (Cp.lo n))))).a ((k40' 1012 n).a ((p' ((fCr,14,A8' fCr 14,lPd us tr pp qq z i nk ck (some ak) da sa V at' m m c c n n' a b b').snd.snd.fst = (fCr,14,A8' fCr 14,lPd us tr pp qq z i nk ck (some ak) da sa V at' m m c c n n' a b b').snd.snd.fst)).a (k4'.a ((p' (VW (pt' 0 0::a'::a'::pt' 1010 0::e'::AV.map 1011::a'::a'::i' i::pt' 1100 0::v' (sl' (some a) m c)::AV.slice 1012 0 n 1 (Cp.lo n)::ra16 (ra4 (a'::a'::a'::AV.slice 1005 0 z 3 (Cp.lo z)::i' z::i' i::j'::i' i::pt' 1005 (0 + i * 3)::AV.agg [s' nm1,i' at',v' (sl' (some a) m c)]::i' i::pt' 1010 0::v' (sl' (some ak) nk ck)::z' ↑nk::g'::g'::pt' 1010 0::v' (sl' (some ak) nk ck)::i' i::v' (Value.pointer (some (ak.add (i * 1))))::j'::g'::g'::pt' 1100 2::v' (sl' (some a) m c)::i' i::pt' 0 0::pt' 0 0::pt' 0 1::AV.slice 1005 0 z 3 (Cp.lo z)::z' ↑z::z' (IntKind.i64.wrap (↑z - o' 1))::g'::g'::u'::u'::u'::g'::ra4 (a'::a'::a'::AV.map 1011::pt' 1100 0::s' nm1::AV.slice 1012 0 n 1 (Cp.lo n)::ra16 (ra16 (ra4 (a'::a'::a'::[]))))))) (pt' 0 0::a'::a'::pt' 1010 0::e'::AV.map 1011::a'::a'::a'::pt' 1100 0::v' (sl' (some a) m c)::AV.slice 1012 0 n 1 (Cp.lo n)::ra16 (ra4 (a'::a'::a'::AV.slice 1005 0 z 3 (Cp.lo z)::i' z::i' i::ra16 (ra16 (ra16 (ra16 (ra16 (a'::a'::[])))))))))).a (h39' 1001 1005 z us 1002 1003 pp 1004 qq da 1013 1100 sa V ak nk ck tr b at' a m c (h38' at' n' m W a 1013 1100 1001 1002 1003 1004 1005 1010 1011 1012 1101 b' (((p' (findKey Tryz.prog (envW [] (AG' [(19,7,0,hv j'),(19,8,2,hv (AV.agg [s' nm1,i' at',v' (sl' (some a) m c)])),(19,18,0,hv (i' (i + 1))),(19,9,4,hv g'),(19,9,10,hv j'),(19,9,11,hv g'),(19,9,12,hv g'),(19,13,4,ho 1011 (AO.map [(s' nm1,a',0)] 1)),(19,11,7,hv g'),(19,11,12,hv g')]) [(19,14,A8' 19 14,lPd us tr pp qq z i nk ck (some ak) da sa V at' m m c c n n' a b b')] W F) 9 (s' nm1) [(s' nm1,a',0)] 0 = AP.ret (some (0,a')))).a (f' (E4' (s' nm1) [(s' nm1,a',0)]))).a ((k2' i).a k1'))))))))))))) := χ
abbrev k43' (q0 : Int) : Cnd := (ee' (z' q0))
abbrev k44' (q0 q1 : Nat) : Cnd := (wb' (o' q0 == IntKind.i64.wrap (↑q1 - o' 1)) j')
theorem XB' (W : World) (us tr : Int) (pp qq z i nk ck : Nat) (ak : Addr) (da sa : Bs) (V : List Value) (at' m c n n' : Nat) (a : Addr) (b b' : Bs) (F : HP) : B9' [] (AG' (h8 at' a m c i ++ (h9 ++ [ht' fCr 11 7, hf' fCr 11 11, hf' fCr 11 12]))) [(fCr, 14, A8' fCr 14, lPd us tr pp qq z i nk ck (some ak) da sa V at' m m c c n n' a b b')] W fCr (A8' fCr 7) (tms 0 120 (aCr z i)) (oC0 us pp qq da sa V z (some ak) nk ck tr ++ oCr n b) kCr ixC F = VT.leaf (AX.normal,[pt' 0 0,pt' 1106 0,e',AV.map 1107,AV.slice 1105 0 z 3 (Cp.lo z),i' z,i' (i + 1)],120) [some (ce' [AV.map 1101,AV.slice 1105 0 z 3 (Cp.lo z),i' 1099511627776,z' us] 142),none,none,none,none,none,none,none,none,none,some (AO.map [(s' nm1,pt' 1102 0,0)] 1),some (ce' [AV.slice 1103 0 pp 1 (Cp.lo pp),AV.slice 1104 0 qq 1 (Cp.lo qq)] 148),some (ce' (AV.rens (sgN (fun k => match k.beq 1013 with | true => 1100 | false => k) [1001,1002,1003,1004,1005,1010,1011,1012,1013] 1101) (rowV encB da)) 10),some (ce' (AV.rens (sgN (fun k => match k.beq 1013 with | true => 1100 | false => k) [1001,1002,1003,1004,1005,1010,1011,1012,1013] 1101) (rowV encB sa)) 10),some (ce' (AV.rens (sgN (fun k => match k.beq 1013 with | true => 1100 | false => k) [1001,1002,1003,1004,1005,1010,1011,1012,1013] 1101) (vmap V)) 182),some (ce' [v' (sl' (some ak) nk ck),z' tr] 94),some (AO.map [(s' nm1,AV.slice 1108 0 n' 1 (Cp.lo n'),0)] 1),some (ce' (splice (AV.rens (sgN (fun k => match k.beq 1013 with | true => 1100 | false => k) [1001,1002,1003,1004,1005,1010,1011,1012,1013] 1101) (rowV encB b')) (0 + at' * 1) (vmap (AN' W a (m.min (n' - at') * 1)))) 10),some (ce' [s' nm1,i' at',v' (sl' (some a) m c)] 182),none,none] 1110 (h42' i z V at' a m c nk W ak ((k44' i z).a ((k43' tr).a ((wb' (decide (tr >= o' 0)) g').a (k41'.a (k28'.a ((f' (findKey Tryz.prog (envW [] (AG' [(19,7,0,hv j'),(19,8,2,hv (AV.agg [s' nm1,i' at',v' (sl' (some a) m c)])),(19,18,0,hv (i' (i + 1))),(19,9,4,hv g'),(19,9,10,hv j'),(19,9,11,hv g'),(19,9,12,hv g'),(19,13,4,ho 1011 (AO.map [(s' nm1,a',0)] 1)),(19,11,7,hv j'),(19,11,11,hv g'),(19,11,12,hv g')]) [(19,14,A8' 19 14,lPd us tr pp qq z i nk ck (some ak) da sa V at' m m c c n n' a b b')] W F) 9 (s' nm1) [(s' nm1,AV.slice 1012 0 n 1 (Cp.lo n),0)] 0 = AP.ret (some (0,AV.slice 1012 0 n 1 (Cp.lo n))))).a ((k40' 1012 n).a ((p' ((fCr,14,A8' fCr 14,lPd us tr pp qq z i nk ck (some ak) da sa V at' m m c c n n' a b b').snd.snd.fst = (fCr,14,A8' fCr 14,lPd us tr pp qq z i nk ck (some ak) da sa V at' m m c c n n' a b b').snd.snd.fst)).a (k4'.a ((p' (VW (pt' 0 0::a'::a'::pt' 1010 0::e'::AV.map 1011::a'::a'::i' i::pt' 1100 0::v' (sl' (some a) m c)::AV.slice 1012 0 n 1 (Cp.lo n)::ra16 (ra4 (a'::a'::a'::AV.slice 1005 0 z 3 (Cp.lo z)::i' z::i' i::j'::i' i::pt' 1005 (0 + i * 3)::AV.agg [s' nm1,i' at',v' (sl' (some a) m c)]::i' i::pt' 1010 0::v' (sl' (some ak) nk ck)::z' ↑nk::g'::g'::pt' 1010 0::v' (sl' (some ak) nk ck)::i' i::v' (Value.pointer (some (ak.add (i * 1))))::j'::g'::g'::pt' 1100 2::v' (sl' (some a) m c)::i' i::pt' 0 0::pt' 0 0::pt' 0 1::AV.slice 1005 0 z 3 (Cp.lo z)::z' ↑z::z' (IntKind.i64.wrap (↑z - o' 1))::j'::j'::pt' 1010 1::z' tr::g'::g'::ra4 (a'::a'::a'::AV.map 1011::pt' 1100 0::s' nm1::AV.slice 1012 0 n 1 (Cp.lo n)::ra16 (ra16 (ra4 (a'::a'::a'::[]))))))) (pt' 0 0::a'::a'::pt' 1010 0::e'::AV.map 1011::a'::a'::a'::pt' 1100 0::v' (sl' (some a) m c)::AV.slice 1012 0 n 1 (Cp.lo n)::ra16 (ra4 (a'::a'::a'::AV.slice 1005 0 z 3 (Cp.lo z)::i' z::i' i::ra16 (ra16 (ra16 (ra16 (ra16 (a'::a'::[])))))))))).a (h39' 1001 1005 z us 1002 1003 pp 1004 qq da 1013 1100 sa V ak nk ck tr b at' a m c (h38' at' n' m W a 1013 1100 1001 1002 1003 1004 1005 1010 1011 1012 1101 b' (((p' (findKey Tryz.prog (envW [] (AG' [(19,7,0,hv j'),(19,8,2,hv (AV.agg [s' nm1,i' at',v' (sl' (some a) m c)])),(19,18,0,hv (i' (i + 1))),(19,9,4,hv g'),(19,9,10,hv j'),(19,9,11,hv g'),(19,9,12,hv g'),(19,13,4,ho 1011 (AO.map [(s' nm1,a',0)] 1)),(19,11,7,hv j'),(19,11,11,hv g'),(19,11,12,hv g')]) [(19,14,A8' 19 14,lPd us tr pp qq z i nk ck (some ak) da sa V at' m m c c n n' a b b')] W F) 9 (s' nm1) [(s' nm1,a',0)] 0 = AP.ret (some (0,a')))).a (f' (E4' (s' nm1) [(s' nm1,a',0)]))).a ((k2' i).a k1'))))))))))))))) := χ
theorem X7' (W : World) (us tr : Int) (pp qq z i nk ck : Nat) (ak : Addr) (da sa : Bs) (V : List Value) (at' m q c n n' : Nat) (a : Addr) (b b' : Bs) (F : HP) : B9' [] (AG' (h8 at' a m c i ++ (h9 ++ [ht' fCr 11 7, ht' fCr 11 11, ht' fCr 11 12, (fCr, 12, 5, hv (iv (o' q))), (fCr, 12, 6, h0v (slV (some a) q c))]))) [(fCr, 14, A8' fCr 14, lPd us tr pp qq z i nk ck (some ak) da sa V at' q m c c n n' a b b')] W fCr (A8' fCr 7) (tms 0 120 (aCr z i)) (oC0 us pp qq da sa V z (some ak) nk ck tr ++ oCr n b) kCr ixC F = VT.leaf (AX.normal,[pt' 0 0,pt' 1106 0,e',AV.map 1107,AV.slice 1105 0 z 3 (Cp.lo z),i' z,i' (i + 1)],120) [some (ce' [AV.map 1101,AV.slice 1105 0 z 3 (Cp.lo z),i' 1099511627776,z' us] 142),none,none,none,none,none,none,none,none,none,some (AO.map [(s' nm1,pt' 1102 0,0)] 1),some (ce' [AV.slice 1103 0 pp 1 (Cp.lo pp),AV.slice 1104 0 qq 1 (Cp.lo qq)] 148),some (ce' (AV.rens (sgN (fun k => match k.beq 1013 with | true => 1100 | false => k) [1001,1002,1003,1004,1005,1010,1011,1012,1013] 1101) (rowV encB da)) 10),some (ce' (AV.rens (sgN (fun k => match k.beq 1013 with | true => 1100 | false => k) [1001,1002,1003,1004,1005,1010,1011,1012,1013] 1101) (rowV encB sa)) 10),some (ce' (AV.rens (sgN (fun k => match k.beq 1013 with | true => 1100 | false => k) [1001,1002,1003,1004,1005,1010,1011,1012,1013] 1101) (vmap V)) 182),some (ce' [v' (sl' (some ak) nk ck),z' tr] 94),some (AO.map [(s' nm1,AV.slice 1108 0 n' 1 (Cp.lo n'),0)] 1),some (ce' (splice (AV.rens (sgN (fun k => match k.beq 1013 with | true => 1100 | false => k) [1001,1002,1003,1004,1005,1010,1011,1012,1013] 1101) (rowV encB b')) (0 + at' * 1) (vmap (AN' W a (q.min (n' - at') * 1)))) 10),some (ce' [s' nm1,i' at',v' (sl' (some a) m c)] 182),none,none] 1110 (h42' i z V at' a m c nk W ak ((k44' i z).a ((k43' tr).a ((wb' (decide (tr >= o' 0)) j').a (k37'.a ((k43' tr).a ((f' (Wk (z' (if tr < ↑m then tr else ↑m)) (i' q))).a (((p' (0 <= q)).a ((p' (q <= c)).a (f' (Wk (v' (sl' (some a) q c)) (v' (sl' (some a) q c)))))).a (k28'.a ((f' (findKey Tryz.prog (envW [] (AG' [(19,7,0,hv j'),(19,8,2,hv (AV.agg [s' nm1,i' at',v' (sl' (some a) m c)])),(19,18,0,hv (i' (i + 1))),(19,9,4,hv g'),(19,9,10,hv j'),(19,9,11,hv g'),(19,9,12,hv g'),(19,13,4,ho 1011 (AO.map [(s' nm1,a',0)] 1)),(19,11,7,hv j'),(19,11,11,hv j'),(19,11,12,hv j'),(19,12,5,hv (i' q)),(19,12,6,h0v (v' (sl' (some a) q c)))]) [(19,14,A8' 19 14,lPd us tr pp qq z i nk ck (some ak) da sa V at' q m c c n n' a b b')] W F) 9 (s' nm1) [(s' nm1,AV.slice 1012 0 n 1 (Cp.lo n),0)] 0 = AP.ret (some (0,AV.slice 1012 0 n 1 (Cp.lo n))))).a ((k40' 1012 n).a ((p' ((fCr,14,A8' fCr 14,lPd us tr pp qq z i nk ck (some ak) da sa V at' q m c c n n' a b b').snd.snd.fst = (fCr,14,A8' fCr 14,lPd us tr pp qq z i nk ck (some ak) da sa V at' q m c c n n' a b b').snd.snd.fst)).a (k4'.a ((p' (VW (pt' 0 0::a'::a'::pt' 1010 0::e'::AV.map 1011::a'::a'::i' i::pt' 1100 0::v' (sl' (some a) q c)::AV.slice 1012 0 n 1 (Cp.lo n)::ra16 (ra4 (a'::a'::a'::AV.slice 1005 0 z 3 (Cp.lo z)::i' z::i' i::j'::i' i::pt' 1005 (0 + i * 3)::AV.agg [s' nm1,i' at',v' (sl' (some a) m c)]::i' i::pt' 1010 0::v' (sl' (some ak) nk ck)::z' ↑nk::g'::g'::pt' 1010 0::v' (sl' (some ak) nk ck)::i' i::v' (Value.pointer (some (ak.add (i * 1))))::j'::g'::g'::pt' 1100 2::v' (sl' (some a) m c)::i' i::pt' 0 0::pt' 0 0::pt' 0 1::AV.slice 1005 0 z 3 (Cp.lo z)::z' ↑z::z' (IntKind.i64.wrap (↑z - o' 1))::j'::j'::pt' 1010 1::z' tr::j'::j'::v' (sl' (some a) m c)::v' (sl' (some a) m c)::z' ↑m::pt' 1010 1::z' tr::i' q::v' (sl' (some a) q c)::AV.map 1011::pt' 1100 0::s' nm1::AV.slice 1012 0 n 1 (Cp.lo n)::ra16 (ra16 (ra4 (a'::a'::a'::[])))))) (pt' 0 0::a'::a'::pt' 1010 0::e'::AV.map 1011::a'::a'::a'::pt' 1100 0::v' (sl' (some a) q c)::AV.slice 1012 0 n 1 (Cp.lo n)::ra16 (ra4 (a'::a'::a'::AV.slice 1005 0 z 3 (Cp.lo z)::i' z::i' i::ra16 (ra16 (ra16 (ra16 (ra16 (a'::a'::[])))))))))).a (h39' 1001 1005 z us 1002 1003 pp 1004 qq da 1013 1100 sa V ak nk ck tr b at' a m c (h38' at' n' q W a 1013 1100 1001 1002 1003 1004 1005 1010 1011 1012 1101 b' (((p' (findKey Tryz.prog (envW [] (AG' [(19,7,0,hv j'),(19,8,2,hv (AV.agg [s' nm1,i' at',v' (sl' (some a) m c)])),(19,18,0,hv (i' (i + 1))),(19,9,4,hv g'),(19,9,10,hv j'),(19,9,11,hv g'),(19,9,12,hv g'),(19,13,4,ho 1011 (AO.map [(s' nm1,a',0)] 1)),(19,11,7,hv j'),(19,11,11,hv j'),(19,11,12,hv j'),(19,12,5,hv (i' q)),(19,12,6,h0v (v' (sl' (some a) q c)))]) [(19,14,A8' 19 14,lPd us tr pp qq z i nk ck (some ak) da sa V at' q m c c n n' a b b')] W F) 9 (s' nm1) [(s' nm1,a',0)] 0 = AP.ret (some (0,a')))).a (f' (E4' (s' nm1) [(s' nm1,a',0)]))).a ((k2' i).a k1')))))))))))))))))) := χ
end
def padB (b : Bs) (t : Nat) : Bs := b ++ List.replicate (t - b.length) 0
theorem KI' (b : Bs) (t : Nat) : (padB b t).length = max b.length t := by rw [padB, la', List.length_replicate]; omega
theorem SO' (j : Nat) : List.replicate (j + 1) (0 : UInt8) = List.replicate j 0 ++ [0] := by rw [List.replicate_succ']
theorem VG' (W : World) (us tr : Int) (pp qq z i nk ck : Nat) (ok : Option Addr) (da sa : Bs) (V : List Value) (at' q m c0 c : Nat) (a : Addr) (b : Bs) (hT : at' + q <= 4398046511104) (hb : b.length <= 4398046511104) :
  LTri Θ W (A8' fCr 14) (tms 0 120 (aPd a q c b.length z i)) (oC0 us pp qq da sa V z ok nk ck tr ++ oPd at' a m c0 b) (.exit 4) (tms 0 120 (aPd a q c (padB b (at' + q)).length z i)) (oC0 us pp qq da sa V z ok nk ck tr ++ oPd at' a m c0 (padB b (at' + q))) := by
 refine BP' (W := W) (g := fCr) (b := A8' fCr 14) (σ := {s : Bs // ∃ j, j <= (at' + q) - b.length /\ s = b ++ List.replicate j 0}) 120 (fun s => aPd a q c s.1.length z i) (fun s => oC0 us pp qq da sa V z ok nk ck tr ++ oPd at' a m c0 s.1) (.exit 4) (aPd a q c (padB b (at' + q)).length z i) (oC0 us pp qq da sa V z ok nk ck tr ++ oPd at' a m c0 (padB b (at' + q))) (fun s => at' + q - s.1.length) kPd [0, 3, 4, 5, 9, 10, 11, 35, 36, 37] (by intro h; cases h) (fun _ => rfl) rfl ?_ ⟨b, 0, Nat.zero_le _, by simp⟩
 rintro ⟨s, j, hj, hs⟩; simp only
 have hsl : s.length = b.length + j := by rw [hs, la', List.length_replicate]
 have hrl : (rowV encB s).length = s.length := BA' s
 have e2 : IntKind.i64.wrap (o' at' + (q : Int)) = o' (at' + q) := by
  rw [IntWalk.i64_in _ (by simp only [Z0]; omega)]; simp only [Z0]; omega
 by_cases h1 : s.length < at' + q
 ·have e1 : decide ((s.length : Int) < o' (at' + q)) = true := decide_eq_true (by simp only [Z0]; omega)
  have ktk : List.take (s.length * 1) (List.drop 0 (rowV encB s)) = rowV encB s := by rw [List.drop_zero, List.take_of_length_le (by rw [hrl, Nat.mul_one]; exact Yd)]
  have k1 : (0 + s.length * 1).ble (rowV encB s).length = true := AM' (by rw [hrl]; omega); have k2 : ((s.length + 1) * 1).ble 140737488355328 = true := AM' ω; have k3 : (s.length + 1).ble 9223372036854775807 = true := AM' ω
  have k4 : (List.take (s.length * 1) (List.drop 0 (rowV encB s))).length.beq (s.length * 1) = true := by rw [ktk, hrl, Nat.mul_one]; exact Nat.beq_refl _
  have hnl : (s ++ [0]).length = s.length + 1 := by rw [la']; rfl
  refine ⟨[], AG' [(fCr, 14, 6, hv (iv (o' (at' + q)))), ht' fCr 14 7], [], fun _ _ => noC, fun _ _ => noL, fun F => ?_⟩
  refine Yj (WB' W us tr pp qq z i nk ck ok da sa V at' q m c0 c s.length a s F) ⟨⟨?_, rfl, .inl ⟨rfl, ⟨s ++ [0], j + 1, by omega, by rw [hs, SO', List.append_assoc]⟩, by show at' + q - (s ++ [0]).length < _; rw [hnl]; omega, [(1001, 1001), (1002, 1002), (1003, 1003), (1004, 1004), (1005, 1005), (1010, 1010), (1011, 1011), (1012, 1101), (1013, 1013)], by kernel_rfl, by kernel_rfl, ⟨Ya, Ya, Ya, Ya, Ya, Ya, by rw [hnl]; exact Ya, Ya, Ya, Ya, Ye⟩, ⟨_, rfl, Yc⟩, ⟨_, rfl, Yc⟩, ⟨_, rfl, Yc⟩, ⟨_, rfl, AP' rfl rfl⟩, ⟨_, rfl, AP' rfl rfl⟩, ⟨_, rfl, OW.of_eq (by simp only [AO.ren, AK'])⟩, ⟨_, rfl, Yc⟩, ⟨_, rfl, Yc⟩, ⟨_, rfl, AP' (by rw [ktk, BR']; rfl) rfl⟩, ⟨_, rfl, Yc⟩, Ye⟩⟩⟩
  simp only [ch', k1, k2, k3, k4, true_and, and_true]; and_intros; all_goals exact Kw14'
 ·have e1 : decide ((s.length : Int) < o' (at' + q)) = false := decide_eq_false (by simp only [Z0]; omega)
  have hse : s = padB b (at' + q) := by
   rw [hs, padB]
   congr 2
   omega
  rw [hse]; rw [hse] at e1
  refine ⟨[], AG' [(fCr, 14, 6, hv (iv (o' (at' + q)))), hf' fCr 14 7], [], fun _ _ => noC, fun _ _ => noL, fun F => ?_⟩
  generalize hpd : padB b (at' + q) = pd at *
  refine Yj (WC' W us tr pp qq z i nk ck ok da sa V at' q m c0 c pd.length a pd F) ⟨⟨?_, rfl, .inr ⟨rfl, [(1001, 1001), (1002, 1002), (1003, 1003), (1004, 1004), (1005, 1005), (1010, 1010), (1011, 1011), (1012, 1012), (1013, 1013)], by kernel_rfl, by kernel_rfl, ⟨Ya, Ya, Ya, Ya, Ya, Ya, Ya, Ya, Ya, Ya, Ye⟩, ⟨_, rfl, Yc⟩, ⟨_, rfl, Yc⟩, ⟨_, rfl, Yc⟩, ⟨_, rfl, AP' rfl rfl⟩, ⟨_, rfl, AP' rfl rfl⟩, ⟨_, rfl, OW.of_eq (by simp only [AO.ren, AK'])⟩, ⟨_, rfl, Yc⟩, ⟨_, rfl, Yc⟩, ⟨_, rfl, AP' rfl rfl⟩, ⟨_, rfl, Yc⟩, Ye⟩⟩⟩
  simp only [ch', true_and, and_true]; and_intros; all_goals exact Kw14'
def dOf (z i : Nat) (tr : Int) (d : Bs) : Bs := if i + 1 = z /\ 0 <= tr then d.take tr.toNat else d
def crS (kp : List Bool) (tr : Int) (z : Nat) : Nat -> Nat -> Bs -> List Bs -> Bs
 | at', i, b, [] => b
 | at', i, b, d :: ds => crS kp tr z (at' + d.length) (i + 1) (if kp.getD i false = true then CH' b at' (dOf z i tr d) else b) ds
structure KAt (W : World) (ok : Option Addr) (kp : List Bool) : Prop where
 le : kp.length <= big
 at' : ∀ i b, kp[i]? = some b -> ∃ ak, ok = some ak /\ W.cell? (ak.add (i * 1)) = some (.bool b)
theorem PI' (x : AV) : OW (lfM x) (lfM .any) := fun N i D w h => by
 simp only [lfM, OR, ERs] at h ⊢; obtain ⟨l, es', h1, h2, h3, ⟨e, r, ⟨q1, q2, q3⟩, q4, q5⟩, h5⟩ := h
 exact ⟨l, es', h1, h2, h3, ⟨e, r, ⟨q1, by simp only [VR], q3⟩, q4, q5⟩, h5⟩
theorem KB' (x : AV) : E4' (sv nm1) [(sv nm1, x, 0)] := fun j v h => by
 have e : C0' (sv nm1) [(sv nm1, x, 0)] 0 = some (0, x) := χ
 rw [e] at h; cases h
 exact ⟨_, rfl, by kernel_rfl⟩
theorem EF' {b d : Bs} {at' : Nat} (h : b.length <= at') : (CH' b at' d).length = at' + d.length := by
 rw [CH', la', la', List.length_replicate]; omega
theorem HI' {b d : Bs} {at' : Nat} (h : b.length <= at') : splice (rowV encB (padB b (at' + d.length))) (0 + at' * 1) (rowV encB d) = rowV encB (CH' b at' d) := by
 have e : padB b (at' + d.length) = (b ++ List.replicate (at' - b.length) 0) ++ List.replicate d.length 0 := by
  rw [padB, List.append_assoc, List.replicate_append_replicate]
  congr 2
  omega
 have hl : (rowV encB (b ++ List.replicate (at' - b.length) (0 : UInt8))).length = 0 + at' * 1 := by
  rw [BA', la', List.length_replicate]; omega
 have hl2 : (rowV encB (b ++ List.replicate (at' - b.length) (0 : UInt8)) ++ rowV encB (List.replicate d.length (0 : UInt8))).length <= 0 + at' * 1 + (rowV encB d).length := by
  rw [la', hl, BA', BA', List.length_replicate]; exact Yd
 rw [splice, e, BR', List.take_left' hl, List.drop_eq_nil_of_le hl2, List.append_nil, CH']; simp only [BR']
theorem M0' (xs : List Rs) (x : Rs) : lenR (xs ++ [x]) = lenR xs + x.d.length := by simp [lenR]
structure Rn (W : World) (V : List Value) (z i : Nat) (at' : Nat) (a : Addr) (d b : Bs) (c : Nat) : Prop where
 hi : i < z
 zb : z < 1099511627776
 he : List.take 3 (List.drop (0 + i * 3) (vmap V)) = [sv nm1, iv (o' at'), slV (some a) d.length c]
 hd : BAt W.cell? (some a) d
 hc : d.length <= c
 hb : b.length <= at'
 hT : at' + d.length <= 2199023255552
abbrev RdS (W : World) (us tr : Int) (pp qq z nk ck : Nat) (ok : Option Addr) (da sa : Bs) (V : List Value) (i : Nat) (b b' : Bs) : Prop :=
 ∃ (con : G0') (hints : BK') (lc : LcL), (∀ F, AL' W F -> ∀ x ∈ con, C1OK Θ F x.1 x.2) /\ (∀ F, AL' W F -> ∀ x ∈ lc, L1OK Θ F x.2.2.1 x.2.2.2) /\
  ∀ F, VAll (fun r os _ => r.2.2 = 120 /\ (r.1 = .normal /\ ∃ l, FitT kCr ixC r.2.1 os (aCr z (i + 1)) (oC0 us pp qq da sa V z ok nk ck tr ++ oCr b'.length b') l)) (B9' con hints lc W fCr (A8' fCr 7) (tms 0 120 (aCr z i)) (oC0 us pp qq da sa V z ok nk ck tr ++ oCr b.length b) kCr ixC F)
theorem R5' (us tr : Int) (pp qq z i nk ck : Nat) (ok : Option Addr) (da sa : Bs) (V : List Value) (at' q m c0 c : Nat) (a : Addr) (b : Bs) (hT : at' + q <= 4398046511104) (hb : b.length <= 4398046511104) (F : HP) (hF : AL' W F) : L1OK Θ F (A8' fCr 14) (lPd us tr pp qq z i nk ck ok da sa V at' q m c0 c b.length (padB b (at' + q)).length a b (padB b (at' + q))) :=
 CX' hF (fun args => by split <;> first | exact RO.ret _ | exact RO.fail _) (fun _ _ => VG' W us tr pp qq z i nk ck ok da sa V at' q m c0 c a b hT hb) fun _ => by
  simp only [RT.pick]; refine BX' rfl rfl (A0' rfl (A0' rfl (A0' Ye (A0' rfl (A0' rfl (A0' Ye (A0' rfl (A0' rfl (A0' Ye (A0' Ye A2')))))))))) ?_ (A0' rfl (A0' rfl (A0' Ye (A0' rfl (A0' rfl (A0' Ye (A0' rfl (A0' rfl (A0' Ye (A0' Ye A2')))))))))) ?_
  ·exact A0' ⟨rfl, rfl, Ye, Ye, Ye⟩ (A0' ⟨Ye, rfl, Ye⟩ (A0' ⟨rfl, rfl, Ye⟩ (A0' (AS' _ _) (A0' (AS' _ _) (A0' (B1' _ _) (A0' ⟨Ye, Ye, Ye⟩ (A0' ⟨Ye, Ye, Ye⟩ (A0' (AS' _ _) (A0' ⟨Ye, Ye, Ye, Ye⟩ A2')))))))))
  ·exact A0' ⟨rfl, rfl, Ye, Ye, Ye⟩ (A0' ⟨Ye, rfl, Ye⟩ (A0' ⟨rfl, rfl, Ye⟩ (A0' (AS' _ _) (A0' (AS' _ _) (A0' (B1' _ _) (A0' ⟨Ye, Ye, Ye⟩ (A0' ⟨Ye, Ye, Ye⟩ (A0' (AS' _ _) (A0' ⟨Ye, Ye, Ye, Ye⟩ A2')))))))))
theorem rd_A (W : World) (us tr : Int) (pp qq z nk ck : Nat) (ok : Option Addr) (da sa : Bs) (V : List Value) (i at' c : Nat) (a : Addr) (d b : Bs) (K : Rn W V z i at' a d b c) (hk : nk <= i) : RdS W us tr pp qq z nk ck ok da sa V i b b := by
 obtain ⟨hi, zb, he, hd, hc, hb, hT⟩ := K; have e1 : decide (o' i < o' z) = true := ltTN hi; have hw := BQ' i ω
 have hbl : i.blt z = true := by rw [bl']; exact hi
 have e9 : decide (o' i >= (nk : Int)) = true := decide_eq_true (by simp only [Z0]; omega)
 refine ⟨[], AG' (h8 at' a d.length c i ++ [ht' fCr 9 4, ht' fCr 9 12]), [], fun _ _ => noC, fun _ _ => noL, fun F => ?_⟩
 refine Yj (XD' W us tr pp qq z i nk ck ok da sa V at' d.length c b.length a b F) ⟨⟨?_, rfl, rfl, [(1001, 1001), (1002, 1002), (1003, 1003), (1004, 1004), (1005, 1005), (1010, 1010), (1011, 1011), (1012, 1012)], by kernel_rfl, by kernel_rfl, ⟨Ya, Ya, Ya, Ya, Ya, Ya, Ya, Ye⟩, ⟨_, rfl, Yc⟩, ⟨_, rfl, Yc⟩, ⟨_, rfl, Yc⟩, ⟨_, rfl, AP' rfl rfl⟩, ⟨_, rfl, AP' rfl rfl⟩, ⟨_, rfl, OW.of_eq (by simp only [AO.ren, AK'])⟩, ⟨_, rfl, Yc⟩, ⟨_, rfl, Yc⟩, ⟨_, rfl, AP' rfl rfl⟩, Ye⟩⟩
 simp only [ch', he, hbl,  true_and, and_true]; and_intros; all_goals first | (with_reducible exact Ye) | (with_reducible exact rfl) | (with_reducible exact Ya) | (with_reducible exact Yb) | (with_reducible exact Yc) | (with_reducible exact CK' hw) | (with_reducible exact A3' e1) | (with_reducible exact A3' e9) | exact B8' _ | exact rfl | exact Ya | exact Kw3'
theorem rd_N (W : World) (us tr : Int) (pp qq z nk ck : Nat) (ak : Addr) (da sa : Bs) (V : List Value) (i at' c : Nat) (a : Addr) (d b : Bs) (K : Rn W V z i at' a d b c) (hk : i < nk) (hv' : W.cell? (ak.add (i * 1)) = some (.bool false)) : RdS W us tr pp qq z nk ck (some ak) da sa V i b b := by
 obtain ⟨hi, zb, he, hd, hc, hb, hT⟩ := K; have e1 : decide (o' i < o' z) = true := ltTN hi; have hw := BQ' i ω
 have hbl : i.blt z = true := by rw [bl']; exact hi
 have e9 : decide (o' i >= (nk : Int)) = false := decide_eq_false (by simp only [Z0]; omega)
 have hbk : i.blt nk = true := by rw [bl']; exact hk
 refine ⟨[], AG' (h8 at' a d.length c i ++ [hf' fCr 9 4, hf' fCr 9 10, ht' fCr 9 11, ht' fCr 9 12]), [], fun _ _ => noC, fun _ _ => noL, fun F => ?_⟩
 refine Yj (X8' W us tr pp qq z i nk ck ak da sa V at' d.length c b.length a b F) ⟨⟨?_, rfl, rfl, [(1001, 1001), (1002, 1002), (1003, 1003), (1004, 1004), (1005, 1005), (1010, 1010), (1011, 1011), (1012, 1012)], by kernel_rfl, by kernel_rfl, ⟨Ya, Ya, Ya, Ya, Ya, Ya, Ya, Ye⟩, ⟨_, rfl, Yc⟩, ⟨_, rfl, Yc⟩, ⟨_, rfl, Yc⟩, ⟨_, rfl, AP' rfl rfl⟩, ⟨_, rfl, AP' rfl rfl⟩, ⟨_, rfl, OW.of_eq (by simp only [AO.ren, AK'])⟩, ⟨_, rfl, Yc⟩, ⟨_, rfl, Yc⟩, ⟨_, rfl, AP' rfl rfl⟩, Ye⟩⟩
 simp only [ch', he, hbl, hbk, hv', Option.isSome_some, Option.getD_some, true_and, and_true]; and_intros; all_goals first | (with_reducible exact Ye) | (with_reducible exact rfl) | (with_reducible exact Ya) | (with_reducible exact Yb) | (with_reducible exact Yc) | (with_reducible exact CK' hw) | (with_reducible exact A3' e1) | (with_reducible exact A3' e9) | exact A3' rfl | exact B8' _ | exact rfl | exact Ya | exact Kw3'
theorem rd_B (W : World) (us tr : Int) (pp qq z nk ck : Nat) (ak : Addr) (da sa : Bs) (V : List Value) (i at' c : Nat) (a : Addr) (d b : Bs) (K : Rn W V z i at' a d b c) (hk : i < nk) (hv' : W.cell? (ak.add (i * 1)) = some (.bool true)) (hl : i + 1 ≠ z) : RdS W us tr pp qq z nk ck (some ak) da sa V i b (CH' b at' d) := by
 obtain ⟨hi, zb, he, hd, hc, hb, hT⟩ := K; have e1 : decide (o' i < o' z) = true := ltTN hi; have hw := BQ' i ω
 have hbl : i.blt z = true := by rw [bl']; exact hi
 have e9 : decide (o' i >= (nk : Int)) = false := decide_eq_false (by simp only [Z0]; omega)
 have hbk : i.blt nk = true := by rw [bl']; exact hk
 have hzw : IntKind.i64.wrap ((z : Int) - o' 1) = o' (z - 1) := by
  rw [IntWalk.i64_in _ (by simp only [Z0]; omega)]; simp only [Z0]; omega
 obtain ⟨D, hD⟩ : ∃ D, D = d := ⟨_, rfl⟩
 have hDB : BAt W.cell? (some a) D := by rw [hD]; exact hd
 have hDl : D.length = d.length := by rw [hD]
 have hDd : D.length <= d.length := ω
 subst hD
 have hpl : (padB b (at' + D.length)).length = at' + D.length := by rw [KI']; omega
 have hpp : (CH' b at' D).length = at' + D.length := EF' hb
 have hmin : D.length.min (at' + D.length - at') = D.length := by rw [Nat.add_sub_cancel_left]; exact Nat.min_self _
 obtain ⟨o1, o2⟩ := CV' hDB
 have o3 : (vmap (AN' W a (D.length * 1))).all AV.one = true := by rw [o2]; exact IV' D
 have o4 : ∀ σ : Nat -> Nat, (0 + at' * 1 + (vmap (AN' W a (D.length * 1))).length).ble (AV.rens σ (rowV encB (padB b (at' + D.length)))).length = true := fun σ => by
  rw [o2, A4', BA', BA', hpl]; exact AM' ω
 have o5 : ∀ σ : Nat -> Nat, splice (AV.rens σ (rowV encB (padB b (at' + D.length)))) (0 + at' * 1) (vmap (AN' W a (D.length * 1))) = rowV encB (CH' b at' D) := fun σ => by
  rw [o2, A4']; exact HI' hb
 have o6 : at'.ble (at' + D.length) = true := AM' ω; have o7 : (at' + D.length).ble (at' + D.length) = true := AM' (Yd); have o8 : D.length.ble D.length = true := AM' (Yd)
 have e7 : (o' i == o' (z - 1)) = false := beq_false_of_ne fun e => by have := Int.ofNat.inj e; omega
 have hL := fun F (hF : AL' W F) => R5' us tr pp qq z i nk ck (some ak) da sa V at' D.length D.length c c a b ω ω F hF
 rw [hpl] at hL
 refine ⟨[], AG' (h8 at' a D.length c i ++ (h9 ++ [hf' fCr 11 7, hf' fCr 11 12])), [(fCr, 14, A8' fCr 14, lPd us tr pp qq z i nk ck (some ak) da sa V at' D.length D.length c c b.length (at' + D.length) a b (padB b (at' + D.length)))], fun _ _ => noC, fun F hF => GF' (hL F hF), fun F => ?_⟩
 refine Yj (XC' W us tr pp qq z i nk ck ak da sa V at' D.length c b.length (at' + D.length) a b (padB b (at' + D.length)) F) ⟨⟨?_, rfl, rfl, [(1001, 1101), (1002, 1102), (1003, 1103), (1004, 1104), (1005, 1105), (1010, 1106), (1011, 1107), (1012, 1108)], by kernel_rfl, by kernel_rfl, ⟨Ya, Ya, Ya, Ya, Ya, Ya, Ya, Ye⟩, ⟨_, rfl, Yc⟩, ⟨_, rfl, Yc⟩, ⟨_, rfl, Yc⟩, ⟨_, rfl, AP' (A4' _ _) rfl⟩, ⟨_, rfl, AP' (A4' _ _) rfl⟩, ⟨_, rfl, OW.of_eq (by simp only [AO.ren, AK'])⟩, ⟨_, rfl, Yc⟩, ⟨_, rfl, by rw [hpp]; exact Yc⟩, ⟨_, rfl, AP' (by rw [hmin]; exact o5 _) rfl⟩, Ye⟩⟩
 simp only [ch', he, hbl, hbk, hv', hmin, hzw, Option.isSome_some, Option.getD_some, o1, o3, o6, o7, o8, true_and, and_true]; and_intros; all_goals first | (with_reducible exact Ye) | (with_reducible exact rfl) | (with_reducible exact Ya) | (with_reducible exact Yb) | (with_reducible exact Yc) | (with_reducible exact CK' hw) | (with_reducible exact A3' e1) | (with_reducible exact A3' e9) | (with_reducible exact A3' e7) | exact Kw8'
theorem rd_C (W : World) (us tr : Int) (pp qq z nk ck : Nat) (ak : Addr) (da sa : Bs) (V : List Value) (i at' c : Nat) (a : Addr) (d b : Bs) (K : Rn W V z i at' a d b c) (hk : i < nk) (hv' : W.cell? (ak.add (i * 1)) = some (.bool true)) (hl : i + 1 = z) (ht : tr < 0) : RdS W us tr pp qq z nk ck (some ak) da sa V i b (CH' b at' d) := by
 obtain ⟨hi, zb, he, hd, hc, hb, hT⟩ := K; have e1 : decide (o' i < o' z) = true := ltTN hi; have hw := BQ' i ω
 have hbl : i.blt z = true := by rw [bl']; exact hi
 have e9 : decide (o' i >= (nk : Int)) = false := decide_eq_false (by simp only [Z0]; omega)
 have hbk : i.blt nk = true := by rw [bl']; exact hk
 have hzw : IntKind.i64.wrap ((z : Int) - o' 1) = o' (z - 1) := by
  rw [IntWalk.i64_in _ (by simp only [Z0]; omega)]; simp only [Z0]; omega
 obtain ⟨D, hD⟩ : ∃ D, D = d := ⟨_, rfl⟩
 have hDB : BAt W.cell? (some a) D := by rw [hD]; exact hd
 have hDl : D.length = d.length := by rw [hD]
 have hDd : D.length <= d.length := ω
 subst hD
 have hpl : (padB b (at' + D.length)).length = at' + D.length := by rw [KI']; omega
 have hpp : (CH' b at' D).length = at' + D.length := EF' hb
 have hmin : D.length.min (at' + D.length - at') = D.length := by rw [Nat.add_sub_cancel_left]; exact Nat.min_self _
 obtain ⟨o1, o2⟩ := CV' hDB
 have o3 : (vmap (AN' W a (D.length * 1))).all AV.one = true := by rw [o2]; exact IV' D
 have o4 : ∀ σ : Nat -> Nat, (0 + at' * 1 + (vmap (AN' W a (D.length * 1))).length).ble (AV.rens σ (rowV encB (padB b (at' + D.length)))).length = true := fun σ => by
  rw [o2, A4', BA', BA', hpl]; exact AM' ω
 have o5 : ∀ σ : Nat -> Nat, splice (AV.rens σ (rowV encB (padB b (at' + D.length)))) (0 + at' * 1) (vmap (AN' W a (D.length * 1))) = rowV encB (CH' b at' D) := fun σ => by
  rw [o2, A4']; exact HI' hb
 have o6 : at'.ble (at' + D.length) = true := AM' ω; have o7 : (at' + D.length).ble (at' + D.length) = true := AM' (Yd); have o8 : D.length.ble D.length = true := AM' (Yd); have e7 : (o' i == o' (z - 1)) = true := beq_iff_eq.2 (by congr 1; omega); have e8 : decide (tr >= o' 0) = false := decide_eq_false (by simp only [Z0]; omega)
 have hL := fun F (hF : AL' W F) => R5' us tr pp qq z i nk ck (some ak) da sa V at' D.length D.length c c a b ω ω F hF
 rw [hpl] at hL
 refine ⟨[], AG' (h8 at' a D.length c i ++ (h9 ++ [ht' fCr 11 7, hf' fCr 11 11, hf' fCr 11 12])), [(fCr, 14, A8' fCr 14, lPd us tr pp qq z i nk ck (some ak) da sa V at' D.length D.length c c b.length (at' + D.length) a b (padB b (at' + D.length)))], fun _ _ => noC, fun F hF => GF' (hL F hF), fun F => ?_⟩
 refine Yj (XB' W us tr pp qq z i nk ck ak da sa V at' D.length c b.length (at' + D.length) a b (padB b (at' + D.length)) F) ⟨⟨?_, rfl, rfl, [(1001, 1101), (1002, 1102), (1003, 1103), (1004, 1104), (1005, 1105), (1010, 1106), (1011, 1107), (1012, 1108)], by kernel_rfl, by kernel_rfl, ⟨Ya, Ya, Ya, Ya, Ya, Ya, Ya, Ye⟩, ⟨_, rfl, Yc⟩, ⟨_, rfl, Yc⟩, ⟨_, rfl, Yc⟩, ⟨_, rfl, AP' (A4' _ _) rfl⟩, ⟨_, rfl, AP' (A4' _ _) rfl⟩, ⟨_, rfl, OW.of_eq (by simp only [AO.ren, AK'])⟩, ⟨_, rfl, Yc⟩, ⟨_, rfl, by rw [hpp]; exact Yc⟩, ⟨_, rfl, AP' (by rw [hmin]; exact o5 _) rfl⟩, Ye⟩⟩
 simp only [ch', he, hbl, hbk, hv', hmin, hzw, Option.isSome_some, Option.getD_some, o1, o3, o6, o7, o8, true_and, and_true]; and_intros; all_goals first | (with_reducible exact Ye) | (with_reducible exact rfl) | (with_reducible exact Ya) | (with_reducible exact Yb) | (with_reducible exact Yc) | (with_reducible exact CK' hw) | (with_reducible exact A3' e1) | (with_reducible exact A3' e9) | (with_reducible exact A3' e7) | (with_reducible exact A3' e8) | exact Kw8'
theorem rd_T (W : World) (us tr : Int) (pp qq z nk ck : Nat) (ak : Addr) (da sa : Bs) (V : List Value) (i at' c : Nat) (a : Addr) (d b : Bs) (K : Rn W V z i at' a d b c) (hk : i < nk) (hv' : W.cell? (ak.add (i * 1)) = some (.bool true)) (hl : i + 1 = z) (ht : 0 <= tr) : RdS W us tr pp qq z nk ck (some ak) da sa V i b (CH' b at' (d.take tr.toNat)) := by
 obtain ⟨hi, zb, he, hd, hc, hb, hT⟩ := K; have e1 : decide (o' i < o' z) = true := ltTN hi; have hw := BQ' i ω
 have hbl : i.blt z = true := by rw [bl']; exact hi
 have e9 : decide (o' i >= (nk : Int)) = false := decide_eq_false (by simp only [Z0]; omega)
 have hbk : i.blt nk = true := by rw [bl']; exact hk
 have hzw : IntKind.i64.wrap ((z : Int) - o' 1) = o' (z - 1) := by
  rw [IntWalk.i64_in _ (by simp only [Z0]; omega)]; simp only [Z0]; omega
 obtain ⟨D, hD⟩ : ∃ D, D = (d.take tr.toNat) := ⟨_, rfl⟩
 have hDB : BAt W.cell? (some a) D := by rw [hD]; exact hd.take _
 have hDl : D.length = min tr.toNat d.length := by rw [hD, List.length_take]
 have hDd : D.length <= d.length := ω
 rw [<- hD]
 have hpl : (padB b (at' + D.length)).length = at' + D.length := by rw [KI']; omega
 have hpp : (CH' b at' D).length = at' + D.length := EF' hb
 have hmin : D.length.min (at' + D.length - at') = D.length := by rw [Nat.add_sub_cancel_left]; exact Nat.min_self _
 obtain ⟨o1, o2⟩ := CV' hDB
 have o3 : (vmap (AN' W a (D.length * 1))).all AV.one = true := by rw [o2]; exact IV' D
 have o4 : ∀ σ : Nat -> Nat, (0 + at' * 1 + (vmap (AN' W a (D.length * 1))).length).ble (AV.rens σ (rowV encB (padB b (at' + D.length)))).length = true := fun σ => by
  rw [o2, A4', BA', BA', hpl]; exact AM' ω
 have o5 : ∀ σ : Nat -> Nat, splice (AV.rens σ (rowV encB (padB b (at' + D.length)))) (0 + at' * 1) (vmap (AN' W a (D.length * 1))) = rowV encB (CH' b at' D) := fun σ => by
  rw [o2, A4']; exact HI' hb
 have o6 : at'.ble (at' + D.length) = true := AM' ω; have o7 : (at' + D.length).ble (at' + D.length) = true := AM' (Yd); have o8 : D.length.ble D.length = true := AM' (Yd); have e7 : (o' i == o' (z - 1)) = true := beq_iff_eq.2 (by congr 1; omega); have e8 : decide (tr >= o' 0) = true := decide_eq_true (by simp only [Z0]; omega)
 have e10 : (if tr < (d.length : Int) then tr else (d.length : Int)) = o' D.length := by simp only [Z0]; split <;> omega
 have e11 : D.length <= c := ω
 have hL := fun F (hF : AL' W F) => R5' us tr pp qq z i nk ck (some ak) da sa V at' D.length d.length c c a b ω ω F hF
 rw [hpl] at hL
 refine ⟨[], AG' (h8 at' a d.length c i ++ (h9 ++ [ht' fCr 11 7, ht' fCr 11 11, ht' fCr 11 12, (fCr, 12, 5, hv (iv (o' D.length))), (fCr, 12, 6, h0v (slV (some a) D.length c))])), [(fCr, 14, A8' fCr 14, lPd us tr pp qq z i nk ck (some ak) da sa V at' D.length d.length c c b.length (at' + D.length) a b (padB b (at' + D.length)))], fun _ _ => noC, fun F hF => GF' (hL F hF), fun F => ?_⟩
 refine Yj (X7' W us tr pp qq z i nk ck ak da sa V at' d.length D.length c b.length (at' + D.length) a b (padB b (at' + D.length)) F) ⟨⟨?_, rfl, rfl, [(1001, 1101), (1002, 1102), (1003, 1103), (1004, 1104), (1005, 1105), (1010, 1106), (1011, 1107), (1012, 1108)], by kernel_rfl, by kernel_rfl, ⟨Ya, Ya, Ya, Ya, Ya, Ya, Ya, Ye⟩, ⟨_, rfl, Yc⟩, ⟨_, rfl, Yc⟩, ⟨_, rfl, Yc⟩, ⟨_, rfl, AP' (A4' _ _) rfl⟩, ⟨_, rfl, AP' (A4' _ _) rfl⟩, ⟨_, rfl, OW.of_eq (by simp only [AO.ren, AK'])⟩, ⟨_, rfl, Yc⟩, ⟨_, rfl, by rw [hpp]; exact Yc⟩, ⟨_, rfl, AP' (by rw [hmin]; exact o5 _) rfl⟩, Ye⟩⟩
 simp only [ch', he, hbl, hbk, hv', hmin, hzw, Option.isSome_some, Option.getD_some, o1, o3, o6, o7, o8, true_and, and_true]; and_intros; all_goals first | (with_reducible exact Ye) | (with_reducible exact rfl) | (with_reducible exact Ya) | (with_reducible exact Yb) | (with_reducible exact Yc) | (with_reducible exact CK' hw) | (with_reducible exact A3' e1) | (with_reducible exact A3' e9) | (with_reducible exact A3' e7) | (with_reducible exact A3' e8) | (with_reducible exact AZ' e10) | exact Nat.zero_le _ | (with_reducible exact e11) | exact Kw8'
structure CrK (W : World) (ok : Option Addr) (kp : List Bool) (o : Nat) (xs : List Rs) (sa : Bs) : Prop where
 kp : KAt W ok kp
 pb : PB xs W.cell?
 pos : ∀ x ∈ xs, 0 < x.d.length
 sa : sa.length <= o
 sz : o + lenR xs <= 2199023255552
 zb : xs.length < 1099511627776
theorem HZ' : ∀ (xs : List Rs) (i : Nat), lenR (xs.take i) <= lenR xs
 | [], i => by simp
 | x :: xs, 0 => by simp [lenR]
 | x :: xs, i + 1 => by rw [List.take_succ_cons, EG', EG']; have := HZ' xs i; omega
theorem TK' {ok : Option Addr} {kp : List Bool} {xs : List Rs} {sa : Bs} (K : CrK W ok kp o xs sa) (us tr : Int) (pp qq ck : Nat) (da sf : Bs) (i : Nat) (x : Rs) (hx : xs[i]? = some x) (b : Bs) (hb : b.length <= o + lenR (xs.take i)) :
  RdS W us tr pp qq xs.length kp.length ck ok da sf (pwV o xs) i b (if kp.getD i false = true then CH' b (o + lenR (xs.take i)) (dOf xs.length i tr x.d) else b) := by
 obtain ⟨hi, hxe⟩ := List.getElem?_eq_some_iff.1 hx; have hxm : x ∈ xs := List.mem_of_getElem? hx; have hp := K.pos x hxm; obtain ⟨hA, hC⟩ := K.pb x hxm; obtain ⟨b0, hb0⟩ := BU' hp; obtain ⟨a, ha, _⟩ := hA.2 0 b0 hb0
 have hsn : lenR (xs.take (i + 1)) = lenR (xs.take i) + x.d.length := by rw [C7' hx, M0']
 have hle := HZ' xs (i + 1); have hsz := K.sz
 have hN : Rn W (pwV o xs) xs.length i (o + lenR (xs.take i)) a x.d b x.c := ⟨hi, K.zb, by rw [QV' xs o i x hx, ha], ha ▸ hA, hC, hb, by omega⟩
 by_cases hk : i < kp.length
 ·obtain ⟨k, hkk⟩ := BU' hk; obtain ⟨ak, rfl, hv⟩ := K.kp.at' i k hkk
  have hg : kp.getD i false = k := by rw [List.getD, hkk]; rfl
  rw [hg]
  cases k with
  | false =>
   rw [if_neg δ]; exact rd_N W us tr pp qq xs.length kp.length ck ak da sf (pwV o xs) i _ x.c a x.d b hN hk hv
  | true =>
   rw [if_pos rfl]
   by_cases hl : i + 1 = xs.length
   ·by_cases ht : 0 <= tr
    ·rw [dOf, if_pos ⟨hl, ht⟩]; exact rd_T W us tr pp qq xs.length kp.length ck ak da sf (pwV o xs) i _ x.c a x.d b hN hk hv hl ht
    ·rw [dOf, if_neg fun h => ht h.2]
     exact rd_C W us tr pp qq xs.length kp.length ck ak da sf (pwV o xs) i _ x.c a x.d b hN hk hv hl ω
   ·rw [dOf, if_neg fun h => hl h.1]
    exact rd_B W us tr pp qq xs.length kp.length ck ak da sf (pwV o xs) i _ x.c a x.d b hN hk hv hl
 ·have hg : kp.getD i false = false := by rw [List.getD, List.getElem?_eq_none ω]; rfl
  rw [hg, if_neg δ]; exact rd_A W us tr pp qq xs.length kp.length ck ok da sf (pwV o xs) i _ x.c a x.d b hN ω
theorem XW' {ok : Option Addr} {kp : List Bool} {xs : List Rs} {sa : Bs} (K : CrK W ok kp o xs sa) (us tr : Int) (pp qq ck : Nat) (da sf R : Bs) (hR : crS kp tr xs.length o 0 sa (xs.map (·.d)) = R) :
  LTri Θ W (A8' fCr 7) (tms 0 120 (aCr xs.length 0)) (oC0 us pp qq da sf (pwV o xs) xs.length ok kp.length ck tr ++ oCr sa.length sa) (.exit 2) (tms 0 120 [(0, .ptr 0 0), (4, nilS), (5, .map 1011)]) (oC0 us pp qq da sf (pwV o xs) xs.length ok kp.length ck tr ++ oCr R.length R) := by
 refine BP' (W := W) (g := fCr) (b := A8' fCr 7) (σ := {s : Nat × Bs // s.1 <= xs.length /\ s.2.length <= o + lenR (xs.take s.1) /\ crS kp tr xs.length (o + lenR (xs.take s.1)) s.1 s.2 ((xs.drop s.1).map (·.d)) = R}) 120 (fun s => aCr xs.length s.1.1) (fun s => oC0 us pp qq da sf (pwV o xs) xs.length ok kp.length ck tr ++ oCr s.1.2.length s.1.2) (.exit 2) [(0, .ptr 0 0), (4, nilS), (5, .map 1011)] (oC0 us pp qq da sf (pwV o xs) xs.length ok kp.length ck tr ++ oCr R.length R) (fun s => xs.length - s.1.1) kCr ixC (by intro h; cases h) (fun _ => rfl) rfl ?_ ⟨(0, sa), Nat.zero_le _, by simpa [lenR] using K.sa, by simpa [lenR] using hR⟩
 rintro ⟨⟨i, b⟩, hi, hb, hS⟩; simp only at hi hb hS ⊢
 by_cases h1 : i < xs.length
 ·obtain ⟨x, hx⟩ := BU' h1; obtain ⟨con, hints, lc, c1, c2, c3⟩ := TK' K us tr pp qq ck da sf i x hx b hb
  have hsn : lenR (xs.take (i + 1)) = lenR (xs.take i) + x.d.length := by rw [C7' hx, M0']
  have hdr : xs.drop i = x :: xs.drop (i + 1) := by
   rw [List.drop_eq_getElem_cons h1]
   congr 1
   exact (List.getElem?_eq_some_iff.1 hx).2
  rw [hdr, List.map_cons, crS] at hS
  have hdl : (dOf xs.length i tr x.d).length <= x.d.length := by unfold dOf; split <;> simp [List.length_take]; omega
  generalize hb2 : (if kp.getD i false = true then CH' b (o + lenR (xs.take i)) (dOf xs.length i tr x.d) else b) = b2 at *
  have hbl2 : b2.length <= o + lenR (xs.take (i + 1)) := by
   rw [<- hb2, hsn]; split
   ·rw [EF' hb]; omega
   ·omega
  refine ⟨con, hints, lc, c1, c2, fun F => (c3 F).mono fun r os c ⟨q1, q2, q3⟩ => ⟨q1, .inl ⟨q2, ⟨(i + 1, b2), h1, hbl2, by rw [hsn, <- Nat.add_assoc]; exact hS⟩, C8' h1, q3⟩⟩⟩
 ·have hie : i = xs.length := ω
  subst hie; rw [List.drop_eq_nil_of_le (Yd)] at hS; have hbR : b = R := hS; subst hbR
  refine ⟨[], AG' [hf' fCr 7 0], [], fun _ _ => noC, fun _ _ => noL, fun F => ?_⟩
  refine Yj (XA' W us tr pp qq xs.length xs.length kp.length ck ok da sf (pwV o xs) b.length b F) ⟨⟨?_, rfl, .inr ⟨rfl, [(1001, 1001), (1002, 1002), (1003, 1003), (1004, 1004), (1005, 1005), (1010, 1010), (1011, 1011), (1012, 1012)], by kernel_rfl, by kernel_rfl, ⟨Ya, Ya, Ya, Ye⟩, ⟨_, rfl, Yc⟩, ⟨_, rfl, Yc⟩, ⟨_, rfl, Yc⟩, ⟨_, rfl, AP' rfl rfl⟩, ⟨_, rfl, AP' rfl rfl⟩, ⟨_, rfl, OW.of_eq (by simp only [AO.ren, AK'])⟩, ⟨_, rfl, Yc⟩, ⟨_, rfl, Yc⟩, ⟨_, rfl, AP' rfl rfl⟩, Ye⟩⟩⟩
  simp only [ch', and_true]; exact A3' (ltFN (Yd))
theorem KP' {S rs : List Bs} (hS : EZ' S) (hR : EZ' rs) (kp : List Bool) (tr : Int) : ∀ (n k : Nat) (b : Bs), n + k = rs.length -> Left S rs k b -> ∃ j, j <= rs.length /\ AH' (crS kp tr rs.length (cat (S ++ rs.take k)).length k b ((rs.drop k).map AR')) = S ++ rs.take j
 | 0, k, b, h, hl => by
  have : k = rs.length := ω
  subst this; rw [List.drop_eq_nil_of_le (Yd)]; exact hl.whole hS hR
 | n + 1, k, b, h, hl => by
  have hk : k < rs.length := ω
  have hrk : rs[k]? = some rs[k] := List.getElem?_eq_getElem hk; have hdr : rs.drop k = rs[k] :: rs.drop (k + 1) := List.drop_eq_getElem_cons hk
  have hlen : (cat (S ++ rs.take k)).length + (AR' rs[k]).length = (cat (S ++ rs.take (k + 1))).length := by
   rw [C7' hrk, <- List.append_assoc, DW', la']
  rw [hdr, List.map_cons, crS, hlen]
  by_cases hkp : kp.getD k false = true
  ·rw [if_pos hkp]
   by_cases ht : k + 1 = rs.length /\ 0 <= tr
   ·rw [dOf, if_pos ht, <- ht.1, List.drop_eq_nil_of_le ω]; exact hl.torn hS hR hrk _
   ·rw [dOf, if_neg ht]; exact KP' hS hR kp tr n (k + 1) _ ω (hl.keep hrk)
  ·rw [if_neg hkp]; exact KP' hS hR kp tr n (k + 1) _ ω hl.drop
theorem RJ' {S rs : List Bs} (hS : EZ' S) (hR : EZ' rs) (kp : List Bool) (tr : Int) : ∃ j, j <= rs.length /\ AH' (crS kp tr rs.length (cat S).length 0 (cat S) (rs.map AR')) = S ++ rs.take j := by
 have h0 : Left S rs 0 (cat S) := by have := Left.full (S := S) (rs := rs) 0; rwa [List.take_zero, List.append_nil] at this
 have := KP' hS hR kp tr rs.length 0 (cat S) ω h0
 rwa [List.take_zero, List.append_nil, List.drop_zero] at this
theorem NQ' (kp : List Bool) (tr : Int) (z : Nat) : ∀ (ds : List Bs) (at' i : Nat) (b : Bs), b.length <= at' -> b.length <= (crS kp tr z at' i b ds).length /\ (crS kp tr z at' i b ds).length <= at' + (ds.map List.length).sum
 | [], at', i, b, h => ⟨Yd, by simpa [crS] using h⟩
 | d :: ds, at', i, b, h => by
  have hdl : (dOf z i tr d).length <= d.length := by unfold dOf; split <;> simp [List.length_take]; omega
  rw [crS, List.map_cons, List.sum_cons]
  by_cases hk : kp.getD i false = true
  ·rw [if_pos hk]; have hp := EF' (d := dOf z i tr d) h; have := NQ' kp tr z ds (at' + d.length) (i + 1) (CH' b at' (dOf z i tr d)) ω; omega
  ·rw [if_neg hk]; have := NQ' kp tr z ds (at' + d.length) (i + 1) b ω; omega
noncomputable section
def uDO (PV : AV) (O : AO) (us : Int) (p q : Nat) (da sa : Bs) : LH := [(0, dkC PV us), (1001, mpO 0 1), (1002, fiC p q), (1003, rB da), (1004, rB sa), (1005, O)]
def JI' (ok : Option Addr) (nk ck : Nat) (tr : Int) : AV := .agg [slV ok nk ck, iv tr]
def PO' (ok : Option Addr) (nk ck : Nat) (tr : Int) : AO := .cells [slV ok nk ck, iv tr] tFt
def aRg : List (Nat × AV) := [(0, .ptr 0 0), (3, .ptr 1010 0), (4, nilS), (5, .map 1011), (19, .ptr 1014 0)]
def oRg0 (ok : Option Addr) (nk ck : Nat) (tr : Int) : LH := [(1010, PO' ok nk ck tr), (1011, .map [] 0), (1014, .miter (some 1001) 1 [] 1)]
def oRg1 (ok : Option Addr) (nk ck : Nat) (tr : Int) (q : Nat) (sa : Bs) : LH := [(1010, PO' ok nk ck tr), (1011, lfM (sB 1012 q)), (1012, rB sa), (1014, .miter (some 1001) 1 [0] 1)]
def kRg : List Nat := [0, 1001, 1002, 1003, 1004, 1005, 1010, 1011, 1012, 1014, 1100, 1101, 1102]
theorem WA' (us tr : Int) (pp qq nk ck : Nat) (ok : Option Addr) (da sa : Bs) (PV : AV) (O : AO) (F : HP) : B9' [(fCl, cClB qq sa)] (AG' [ht' fCr 3 1]) [] default fCr (A8' fCr 3) (tms 0 120 aRg) (uDO PV O us pp qq da sa ++ oRg0 ok nk ck tr) kRg [0, 3, 4, 5, 19] F = VT.leaf (AX.normal,[pt' 0 0,pt' 1010 0,e',AV.map 1011,pt' 1014 0],120) [some (ce' [AV.map 1001,PV,i' 1099511627776,z' us] 142),some (AO.map [(s' nm1,pt' 1002 0,0)] 1),some (ce' [AV.slice 1003 0 pp 1 (Cp.lo pp),AV.slice 1004 0 qq 1 (Cp.lo qq)] 148),some (ce' (rowV encB da) 10),some (ce' (AV.rens (sgN (fun k => match k with | 0 => 1004 | k => k) [1000] 1100) (rowV encB sa)) 10),some O,some (ce' [v' (sl' ok nk ck),z' tr] 94),some (AO.map [(s' nm1,AV.slice 1100 0 qq 1 (Cp.lo qq),0)] 1),none,some (AO.miter (some 1001) 1 [0] 1),some (ce' (AV.rens (sgN (fun k => match k with | 0 => 1004 | k => k) [1000] 1100) (rowV encB sa)) 10),none,none] 1101 (h11' ((k14' 1004 qq sa).a (((p' (findKey Tryz.prog (envW [(30,cClB qq sa)] (AG' [(19,3,1,hv j')]) [] default F) 9 (s' nm1) [] 0 = AP.ret none)).a (f' (E4' (s' nm1) []))).a k1'))) := χ
theorem W9' (us tr : Int) (pp qq nk ck : Nat) (ok : Option Addr) (da sa : Bs) (PV : AV) (O : AO) (F : HP) : B9' [] (AG' [hf' fCr 3 1]) [] default fCr (A8' fCr 3) (tms 0 120 aRg) (uDO PV O us pp qq da sa ++ oRg1 ok nk ck tr qq sa) kRg [0, 3, 4, 5, 19] F = VT.leaf (AX.exit 0,[pt' 0 0,pt' 1010 0,e',AV.map 1011,pt' 1014 0],120) [some (ce' [AV.map 1001,PV,i' 1099511627776,z' us] 142),some (AO.map [(s' nm1,pt' 1002 0,0)] 1),some (ce' [AV.slice 1003 0 pp 1 (Cp.lo pp),AV.slice 1004 0 qq 1 (Cp.lo qq)] 148),some (ce' (rowV encB da) 10),some (ce' (rowV encB sa) 10),some O,some (ce' [v' (sl' ok nk ck),z' tr] 94),some (AO.map [(s' nm1,AV.slice 1012 0 qq 1 (Cp.lo qq),0)] 1),some (ce' (rowV encB sa) 10),some (AO.miter (some 1001) 1 [0] 1),none,none,none] 1100 (k6'.a k1') := χ
def lRg (us tr : Int) (pp qq nk ck : Nat) (ok : Option Addr) (da sa : Bs) (PV : AV) (O : AO) : List AV -> AP (AX × List AV) := mkL (fun tmps => match tmps.getD 3 .any, tmps.getD 5 .any, tmps.getD 19 .any with
 | .ptr i 0, .map j, .ptr k 0 => .ret (i, j, k)
 | _, _, _ => .fail "files") (fun _ => True) (fun p k => match Nat.beq k 1010 with | true => p.1 | false => match Nat.beq k 1011 with | true => p.2.1 | false => match Nat.beq k 1014 with | true => p.2.2 | false => k) (fun _ => tms 0 120 aRg) (fun _ => uDO PV O us pp qq da sa ++ oRg0 ok nk ck tr) (fun _ => .leaf (.exit 0) (tms 0 120 [(0, .ptr 0 0), (3, .ptr 1010 0), (4, nilS), (5, .map 1011)]) (uDO PV O us pp qq da sa ++ [(1010, PO' ok nk ck tr), (1011, lfM (sB 1012 qq)), (1012, rB sa)]))
def nmF (l : List (Nat × Nat)) (k : Nat) : Nat := match l with
 | [] => k
 | x :: l => match Nat.beq k x.1 with | true => x.2 | false => nmF l k
def gCr (tmps : List AV) : AP (List (Nat × Nat)) := match tmps.getD 3 .any, tmps.getD 5 .any with
 | .ptr i 0, .map j => .read j fun o => match o with
  | .map [(_, .slice k _ _ _ _, _)] _ => .read 0 fun o => match o with
   | .cells [.map m, .slice e _ _ _ _, _, _] _ => .read m fun o => match o with
    | .map [(_, .ptr f 0, _)] _ => .read f fun o => match o with
     | .cells [.slice x _ _ _ _, .slice y _ _ _ _] _ => .ret [(1001, m), (1002, f), (1003, x), (1004, y), (1005, e), (1010, i), (1011, j), (1012, k)]
     | _ => .fail "file"
    | _ => .fail "files"
   | _ => .fail "disk"
  | _ => .fail "left"
 | _, _ => .fail "left"
def lCr (us tr : Int) (pp qq z nk ck n : Nat) (ok : Option Addr) (da sf sa R : Bs) (V : List Value) : List AV -> AP (AX × List AV) := mkL gCr (fun _ => True) nmF (fun _ => tms 0 120 (aCr z 0)) (fun _ => oC0 us pp qq da sf V z ok nk ck tr ++ oCr qq sa) (fun _ => .leaf (.exit 2) (tms 0 120 [(0, .ptr 0 0), (4, nilS), (5, .map 1011)]) (oC0 us pp qq da sf V z ok nk ck tr ++ oCr n R))
def tSt : TypeId := 2 * 9
def aOt0 : List (Nat × AV) := [(4, nilS), (5, .map 1011), (104, .slice 1015 0 1 1 (.lo 1)), (105, iv 1), (106, iv 0)]
def oOt0 (n : Nat) (R : Bs) : LH := [(1011, lfM (sB 1012 n)), (1012, rB R), (1015, .cells [sv nm1] tSt)]
def aOt1 : List (Nat × AV) := [(4, .slice 1016 0 1 2 (.lo 1)), (5, .map 1011), (104, .slice 1015 0 1 1 (.lo 1)), (105, iv 1), (106, iv 1)]
def oOt1 (n : Nat) (R : Bs) : LH := [(1011, lfM (sB 1012 n)), (1012, rB R), (1015, .cells [sv nm1] tSt), (1016, .cells [sv nm1, sB 1012 n] tAf)]
def kOt : List Nat := [1011, 1012, 1015, 1016, 1100, 1101, 1102, 1103]
theorem WH' (n : Nat) (R : Bs) (F : HP) : B9' [] (AG' [ht' fCr 20 0, (fCr, 23, 0, hv (iv 1))]) [] default fCr (A8' fCr 20) (tms 0 120 aOt0) (oOt0 n R) kOt [4, 5, 104, 105, 106] F = VT.leaf (AX.normal,[AV.slice 1101 0 1 2 (Cp.lo 1),AV.map 1011,AV.slice 1015 0 1 1 (Cp.lo 1),i' 1,i' 1],120) [some (AO.map [(s' nm1,AV.slice 1012 0 n 1 (Cp.lo n),0)] 1),some (ce' (rowV encB R) 10),some (ce' [s' nm1] 18),none,some (ce' [s' nm1,AV.slice 1012 0 n 1 (Cp.lo n)] 108),some (ce' [s' nm1,AV.slice 1012 0 n 1 (Cp.lo n)] 108),none,none] 1102 (h11' (k28'.a ((f' (findKey Tryz.prog (envW [] (AG' [(19,20,0,hv j'),(19,23,0,hv (i' 1))]) [] default F) 9 (s' nm1) [(s' nm1,AV.slice 1012 0 n 1 (Cp.lo n),0)] 0 = AP.ret (some (0,AV.slice 1012 0 n 1 (Cp.lo n))))).a (k9'.a (k13'.a k1'))))) := χ
theorem WG' (n : Nat) (R : Bs) (F : HP) : B9' [] (AG' [hf' fCr 20 0]) [] default fCr (A8' fCr 20) (tms 0 120 aOt1) (oOt1 n R) kOt [4, 5, 104, 105, 106] F = VT.leaf (AX.exit 6,[AV.slice 1016 0 1 2 (Cp.lo 1),AV.map 1011,AV.slice 1015 0 1 1 (Cp.lo 1),i' 1,i' 1],120) [some (AO.map [(s' nm1,AV.slice 1012 0 n 1 (Cp.lo n),0)] 1),some (ce' (rowV encB R) 10),some (ce' [s' nm1] 18),some (ce' [s' nm1,AV.slice 1012 0 n 1 (Cp.lo n)] 108),none,none,none,none] 1100 (k6'.a k1') := χ
def lOt (n : Nat) (R : Bs) : List AV -> AP (AX × List AV) := mkL (fun tmps => match tmps.getD 5 .any, tmps.getD 104 .any with
 | .map j, .slice i _ _ _ _ => .read j fun o => match o with
  | .map [(_, .slice k _ _ _ _, _)] _ => .ret [(1011, j), (1012, k), (1015, i)]
  | _ => .fail "names"
 | _, _ => .fail "names") (fun _ => True) nmF (fun _ => tms 0 120 aOt0) (fun _ => oOt0 n R) (fun _ => .leaf (.exit 6) (tms 0 120 [(4, .slice 1016 0 1 2 (.lo 1))]) [(1012, rB R), (1016, .cells [sv nm1, sB 1012 n] tAf)])
def kC6 : List Nat := [0, 1001, 1002, 1003, 1004, 1005, 1100, 1101, 1102, 1103, 1104, 1105, 1106, 1107, 1108, 1109, 1110, 1111, 1112, 1113, 1114, 1115, 1116, 1117, 1118, 1119, 1120, 1121, 1122, 1123, 1124, 1125, 1126, 1127, 1128, 1129, 1130]
abbrev y1' : Δ := ByteArray.mk (Array.mk [108, 111, 103, 46, 49])
abbrev k45' : Cnd := (p' (OW (ce' [s' y1'] 18) (ce' [s' nm1] 18)))
abbrev k46' (q0 q1 : Nat) : Cnd := (ow' (AO.map [(s' nm1,AV.slice q0 0 q1 1 (Cp.lo q1),0)] 1))
abbrev k47' (q0 : Nat) (q1 : Bs) : Cnd := (p' ((fCr,20,A8' fCr 20,lOt q0 q1).snd.snd.fst = (fCr,20,A8' fCr 20,lOt q0 q1).snd.snd.fst))
abbrev k48' (q0 q1 q2 q3 q4 q5 q6 q7 q8 q9 q10 : Nat) (q11 : Bs) (q12 q13 q14 q15 q16 q17 q18 : Nat) : Cnd := (p' (OW (ce' (AV.rens (sgN (fun k => match k.beq q0 with | true => (q1,q1 + 1,q1 + 1 + 1).fst | false => match k.beq q2 with | true => (q1,q1 + 1,q1 + 1 + 1).snd.fst | false => match k.beq q3 with | true => (q1,q1 + 1,q1 + 1 + 1).snd.snd | false => k) [q4,q5,q6,q7,q8,q0,q2,q9] q10) (rowV encB q11)) 10) (ce' (AV.rens (nmF [(q4,q10),(q5,q12),(q6,q13),(q7,q14),(q8,q15),(q0,q16),(q2,q17),(q9,q18)]) (rowV encB q11)) 10)))
abbrev k49' (q0 : Option Addr) (q1 q2 : Nat) (q3 : Int) : Cnd := (ow' (ce' [v' (sl' q0 q1 q2),z' q3] 94))
abbrev h50' (q0 q1 q2 : Nat) (q3 : Int) (q4 q5 q6 q7 q8 : Nat) (z : Cnd) : Cnd := ((ow' (ce' [AV.map q0,AV.slice q1 0 q2 3 (Cp.lo q2),i' 1099511627776,z' q3] 142)).a ((ow' (AO.map [(s' nm1,pt' q4 0,0)] 1)).a ((ow' (ce' [AV.slice q5 0 q6 1 (Cp.lo q6),AV.slice q7 0 q8 1 (Cp.lo q8)] 148)).a z)))
abbrev k51' : Cnd := (ow' (AO.map [] 0))
abbrev k52' (q0 : Bs) (q1 q2 q3 q4 : Nat) : Cnd := (p' (OW (ce' (rowV encB q0) 10) (ce' (AV.rens (fun k => match k.beq q1 with | true => (q2,q2 + 1,q2 + 1 + 1).fst | false => match k.beq q3 with | true => (q2,q2 + 1,q2 + 1 + 1).snd.fst | false => match k.beq q4 with | true => (q2,q2 + 1,q2 + 1 + 1).snd.snd | false => k) (rowV encB q0)) 10)))
abbrev k53' (q0 : Option Addr) (q1 q2 : Nat) (q3 : Int) (q4 q5 q6 q7 : Nat) : Cnd := (p' (VW (pt' 0 0::AV.agg [v' (sl' q0 q1 q2),z' q3]::u'::pt' q4 0::e'::AV.map q5::ru8 (AV.map q5::pt' 0 0::pt' 0 0::pt' 0 0::AV.map q6::pt' q7 0::ru16 (ru16 (ru16 (ru16 (ru16 (ru16 (ru4 ([]))))))))) (pt' 0 0::a'::a'::pt' q4 0::e'::AV.map q5::ra8 (ra4 (a'::pt' q7 0::ra16 (ra16 (ra16 (ra16 (ra16 (ra16 (ra4 ([]))))))))))))
theorem X9' (W : World) (us tr : Int) (pp qq z nk ck n : Nat) (ok : Option Addr) (da sa R : Bs) (V : List Value) (F : HP) : wRun [(fSo, cSo)] BB' [(fCr, 3, A8' fCr 3, lRg us tr pp qq nk ck ok da sa (pV z) (.cells (vmap V) tPw)), (fCr, 7, A8' fCr 7, lCr us tr pp qq z nk ck n ok da sa sa R V), (fCr, 20, A8' fCr 20, lOt n R)] W fCr [.ptr 0 0, JI' ok nk ck tr] (uDO (pV z) (.cells (vmap V) tPw) us pp qq da sa) kC6 F = VT.leaf (AV.slice 1122 0 1 2 (Cp.lo 1)) [some (ce' [AV.map 1111,AV.slice 1115 0 z 3 (Cp.lo z),i' 1099511627776,z' us] 142),none,none,none,none,none,none,none,none,none,none,none,none,none,none,none,none,some (AO.map [(s' nm1,pt' 1112 0,0)] 1),some (ce' [AV.slice 1113 0 pp 1 (Cp.lo pp),AV.slice 1114 0 qq 1 (Cp.lo qq)] 148),some (ce' (AV.rens (sgN (nmF [(1001,1103),(1002,1104),(1003,1105),(1004,1106),(1005,1107),(1010,1108),(1011,1109),(1012,1110)]) [1001,1002,1003,1004,1005,1010,1011,1012] 1111) (rowV encB da)) 10),some (ce' (AV.rens (sgN (nmF [(1001,1103),(1002,1104),(1003,1105),(1004,1106),(1005,1107),(1010,1108),(1011,1109),(1012,1110)]) [1001,1002,1003,1004,1005,1010,1011,1012] 1111) (rowV encB sa)) 10),some (ce' (AV.rens (sgN (nmF [(1001,1103),(1002,1104),(1003,1105),(1004,1106),(1005,1107),(1010,1108),(1011,1109),(1012,1110)]) [1001,1002,1003,1004,1005,1010,1011,1012] 1111) (vmap V)) 182),some (ce' [v' (sl' ok nk ck),z' tr] 94),none,none,some (ce' [AV.map 1111] 136),none,some (ce' (AV.rens (sgN (nmF [(1011,1117),(1012,1118),(1015,1120)]) [1012,1016] 1121) (rowV encB R)) 10),some (ce' [s' nm1,AV.slice 1121 0 n 1 (Cp.lo n)] 108),none,none,none,none,none,none,none,none] 1123 (k8'.a ((p' ((fCr,3,A8' fCr 3,lRg us tr pp qq nk ck ok da sa (pV z) (ce' (vmap V) tPw)).snd.snd.fst = (fCr,3,A8' fCr 3,lRg us tr pp qq nk ck ok da sa (pV z) (ce' (vmap V) tPw)).snd.snd.fst)).a (k4'.a ((k53' ok nk ck tr 1100 1101 1001 1102).a (h50' 1001 1005 z us 1002 1003 pp 1004 qq ((k52' da 1010 1100 1011 1014).a ((k52' sa 1010 1100 1011 1014).a ((p' (OW (ce' (vmap V) 182) (ce' (AV.rens (fun k => match k.beq 1010 with | true => (1100,1100 + 1,1100 + 1 + 1).fst | false => match k.beq 1011 with | true => (1100,1100 + 1,1100 + 1 + 1).snd.fst | false => match k.beq 1014 with | true => (1100,1100 + 1,1100 + 1 + 1).snd.snd | false => k) (vmap V)) 182))).a ((k49' ok nk ck tr).a (k51'.a ((ow' (AO.miter (some 1001) 1 [] 1)).a (k8'.a ((p' ((fCr,7,A8' fCr 7,lCr us tr pp qq z nk ck n ok da sa sa R V).snd.snd.fst = (fCr,7,A8' fCr 7,lCr us tr pp qq z nk ck n ok da sa sa R V).snd.snd.fst)).a (k4'.a ((p' (VW (pt' 0 0::a'::a'::pt' 1108 0::e'::AV.map 1109::ra16 (ra8 (a'::a'::pt' 0 0::pt' 0 0::pt' 0 1::AV.slice 1107 0 z 3 (Cp.lo z)::z' ↑z::i' 0::ra16 (ra16 (ra16 (ra16 (ra16 (a'::a'::[])))))))) (pt' 0 0::a'::a'::pt' 1108 0::e'::AV.map 1109::ra16 (ra8 (ra4 (a'::AV.slice 1107 0 z 3 (Cp.lo z)::i' z::i' 0::ra16 (ra16 (ra16 (ra16 (ra16 (a'::a'::[]))))))))))).a (h50' 1103 1107 z us 1104 1105 pp 1106 qq ((k48' 1010 1100 1011 1014 1001 1002 1003 1004 1005 1012 1103 da 1104 1105 1106 1107 1108 1109 1110).a ((k48' 1010 1100 1011 1014 1001 1002 1003 1004 1005 1012 1103 sa 1104 1105 1106 1107 1108 1109 1110).a ((p' (OW (ce' (AV.rens (sgN (fun k => match k.beq 1010 with | true => (1100,1100 + 1,1100 + 1 + 1).fst | false => match k.beq 1011 with | true => (1100,1100 + 1,1100 + 1 + 1).snd.fst | false => match k.beq 1014 with | true => (1100,1100 + 1,1100 + 1 + 1).snd.snd | false => k) [1001,1002,1003,1004,1005,1010,1011,1012] 1103) (vmap V)) 182) (ce' (AV.rens (nmF [(1001,1103),(1002,1104),(1003,1105),(1004,1106),(1005,1107),(1010,1108),(1011,1109),(1012,1110)]) (vmap V)) 182))).a ((k49' ok nk ck tr).a ((k46' 1110 qq).a ((k48' 1010 1100 1011 1014 1001 1002 1003 1004 1005 1012 1103 sa 1104 1105 1106 1107 1108 1109 1110).a (k32'.a ((k47' n R).a (k4'.a ((p' (VW (pt' 0 0::a'::a'::a'::e'::AV.map 1117::ra16 (ra16 (ra16 (ra16 (ra16 (ra16 (a'::pt' 0 0::AV.slice 1120 0 1 1 (Cp.lo 1)::i' 1::i' 0::ra8 (ra4 (a'::[]))))))))) (ra4 (e'::AV.map 1117::ra16 (ra16 (ra16 (ra16 (ra16 (ra16 (a'::a'::AV.slice 1120 0 1 1 (Cp.lo 1)::i' 1::i' 0::ra8 (ra4 (a'::[])))))))))))).a ((k46' 1118 n).a ((p' (OW (ce' (AV.rens (sgN (nmF [(1001,1103),(1002,1104),(1003,1105),(1004,1106),(1005,1107),(1010,1108),(1011,1109),(1012,1110)]) [1001,1002,1003,1004,1005,1010,1011,1012] 1111) (rowV encB R)) 10) (ce' (AV.rens (nmF [(1011,1117),(1012,1118),(1015,1120)]) (rowV encB R)) 10))).a (k45'.a k1'))))))))))))))))))))))))))))) := χ
abbrev k54' (q0 : Nat) : Cnd := (ow' (AO.map [(s' nm1,pt' q0 0,0)] 1))
theorem X6' (us tr : Int) (pp qq nk ck : Nat) (ok : Option Addr) (da sa : Bs) (O : AO) (F : HP) : wRun [(fSo, cSo)] BB' [(fCr, 3, A8' fCr 3, lRg us tr pp qq nk ck ok da sa nilS O), (fCr, 20, A8' fCr 20, lOt qq sa)] default fCr [.ptr 0 0, JI' ok nk ck tr] (uDO nilS O us pp qq da sa) kC6 F = VT.ite false (VT.bad "indexAddr") (VT.leaf (AV.slice 1114 0 1 2 (Cp.lo 1)) [some (ce' [AV.map 1103,e',i' 1099511627776,z' us] 142),none,none,none,none,none,none,none,none,some (AO.map [(s' nm1,pt' 1104 0,0)] 1),some (ce' [AV.slice 1105 0 pp 1 (Cp.lo pp),AV.slice 1106 0 qq 1 (Cp.lo qq)] 148),some (ce' (AV.rens (sgN (fun k => match k.beq 1010 with | true => (1100,1100 + 1,1100 + 1 + 1).fst | false => match k.beq 1011 with | true => (1100,1100 + 1,1100 + 1 + 1).snd.fst | false => match k.beq 1014 with | true => (1100,1100 + 1,1100 + 1 + 1).snd.snd | false => k) [1001,1002,1003,1004,1005,1010,1011,1012] 1103) (rowV encB da)) 10),some (ce' (AV.rens (sgN (fun k => match k.beq 1010 with | true => (1100,1100 + 1,1100 + 1 + 1).fst | false => match k.beq 1011 with | true => (1100,1100 + 1,1100 + 1 + 1).snd.fst | false => match k.beq 1014 with | true => (1100,1100 + 1,1100 + 1 + 1).snd.snd | false => k) [1001,1002,1003,1004,1005,1010,1011,1012] 1103) (rowV encB sa)) 10),some (AO.ren (sgN (fun k => match k.beq 1010 with | true => (1100,1100 + 1,1100 + 1 + 1).fst | false => match k.beq 1011 with | true => (1100,1100 + 1,1100 + 1 + 1).snd.fst | false => match k.beq 1014 with | true => (1100,1100 + 1,1100 + 1 + 1).snd.snd | false => k) [1001,1002,1003,1004,1005,1010,1011,1012] 1103) O),some (ce' [v' (sl' ok nk ck),z' tr] 94),none,none,some (ce' [AV.map 1103] 136),none,some (ce' (AV.rens (sgN (nmF [(1011,1109),(1012,1110),(1015,1112)]) [1012,1016] 1113) (rowV encB sa)) 10),some (ce' [s' nm1,AV.slice 1113 0 qq 1 (Cp.lo qq)] 108),none,none,none,none,none,none,none,none,none,none,none,none,none,none,none,none] 1115 (k8'.a ((p' ((fCr,3,A8' fCr 3,lRg us tr pp qq nk ck ok da sa nilS O).snd.snd.fst = (fCr,3,A8' fCr 3,lRg us tr pp qq nk ck ok da sa nilS O).snd.snd.fst)).a (k4'.a ((k53' ok nk ck tr 1100 1101 1001 1102).a ((ow' (ce' [AV.map 1001,e',i' 1099511627776,z' us] 142)).a ((k54' 1002).a ((ow' (ce' [AV.slice 1003 0 pp 1 (Cp.lo pp),AV.slice 1004 0 qq 1 (Cp.lo qq)] 148)).a ((k52' da 1010 1100 1011 1014).a ((k52' sa 1010 1100 1011 1014).a ((p' (OW O (AO.ren (fun k => match k.beq 1010 with | true => (1100,1100 + 1,1100 + 1 + 1).fst | false => match k.beq 1011 with | true => (1100,1100 + 1,1100 + 1 + 1).snd.fst | false => match k.beq 1014 with | true => (1100,1100 + 1,1100 + 1 + 1).snd.snd | false => k) O))).a ((k49' ok nk ck tr).a (k51'.a ((ow' (AO.miter (some 1001) 1 [] 1)).a (k8'.a (k32'.a ((k47' qq sa).a (k4'.a ((p' (VW (pt' 0 0::a'::a'::pt' 1108 0::e'::AV.map 1109::ra16 (ra8 (a'::a'::pt' 0 0::pt' 0 0::pt' 0 1::e'::i' 0::i' 0::g'::ra16 (ra16 (ra16 (ra16 (pt' 0 0::AV.slice 1112 0 1 1 (Cp.lo 1)::i' 1::i' 0::ra8 (ra4 (a'::[]))))))))) (ra4 (e'::AV.map 1109::ra16 (ra16 (ra16 (ra16 (ra16 (ra16 (a'::a'::AV.slice 1112 0 1 1 (Cp.lo 1)::i' 1::i' 0::ra8 (ra4 (a'::[])))))))))))).a ((k46' 1110 qq).a ((p' (OW (ce' (AV.rens (sgN (fun k => match k.beq 1010 with | true => (1100,1100 + 1,1100 + 1 + 1).fst | false => match k.beq 1011 with | true => (1100,1100 + 1,1100 + 1 + 1).snd.fst | false => match k.beq 1014 with | true => (1100,1100 + 1,1100 + 1 + 1).snd.snd | false => k) [1001,1002,1003,1004,1005,1010,1011,1012] 1103) (rowV encB sa)) 10) (ce' (AV.rens (nmF [(1011,1109),(1012,1110),(1015,1112)]) (rowV encB sa)) 10))).a (k45'.a k1')))))))))))))))))))))) := χ
end
theorem VD' (us tr : Int) (pp nk ck : Nat) (ok : Option Addr) (da sa : Bs) (PV : AV) (O : AO) (hb : sa.length <= big) (hp : 0 < sa.length) (hPV : ∀ l : List (Nat × Nat), PV.ren (sg ([(1001, 1001), (1002, 1002), (1003, 1003), (1004, 1004), (1005, 1005)] ++ l)) = PV) (hO : ∀ l : List (Nat × Nat), O.ren (sg ([(1001, 1001), (1002, 1002), (1003, 1003), (1004, 1004), (1005, 1005)] ++ l)) = O) :
  LTri Θ default (A8' fCr 3) (tms 0 120 aRg) (uDO PV O us pp sa.length da sa ++ oRg0 ok nk ck tr) (.exit 0) (tms 0 120 [(0, .ptr 0 0), (3, .ptr 1010 0), (4, nilS), (5, .map 1011)]) (uDO PV O us pp sa.length da sa ++ [(1010, PO' ok nk ck tr), (1011, lfM (sB 1012 sa.length)), (1012, rB sa)]) := by
 refine BP' (W := default) (g := fCr) (b := A8' fCr 3) (σ := Bool) 120 (fun _ => aRg) (fun s => match s with | false => uDO PV O us pp sa.length da sa ++ oRg0 ok nk ck tr | true => uDO PV O us pp sa.length da sa ++ oRg1 ok nk ck tr sa.length sa) (.exit 0) [(0, .ptr 0 0), (3, .ptr 1010 0), (4, nilS), (5, .map 1011)] (uDO PV O us pp sa.length da sa ++ [(1010, PO' ok nk ck tr), (1011, lfM (sB 1012 sa.length)), (1012, rB sa)]) (fun s => match s with | false => 1 | true => 0) kRg [0, 3, 4, 5, 19] (by intro h; cases h) (fun s => by cases s <;> rfl) rfl ?_ false; intro s
 cases s with
 | false =>
  refine ⟨[(fCl, cClB sa.length sa)], AG' [ht' fCr 3 1], [], fun F hF => C6' (DY' hb hp F), fun _ _ => noL, fun F => ?_⟩
  refine Yj (WA' us tr pp sa.length nk ck ok da sa PV O F) ⟨⟨?_, rfl, .inl ⟨rfl, true, Nat.lt_succ_self 0, [(1001, 1001), (1002, 1002), (1003, 1003), (1004, 1004), (1005, 1005), (1010, 1010), (1011, 1011), (1012, 1100), (1014, 1014)], by kernel_rfl, by kernel_rfl, ⟨Ya, Ya, Ya, Ya, Ya, Ye⟩, ⟨_, rfl, OW.of_eq ?_⟩, ⟨_, rfl, Yc⟩, ⟨_, rfl, Yc⟩, ⟨_, rfl, AP' rfl rfl⟩, ⟨_, rfl, AP' (A4' _ _) rfl⟩, ⟨_, rfl, OW.of_eq (hO _).symm⟩, ⟨_, rfl, Yc⟩, ⟨_, rfl, Yc⟩, ⟨_, rfl, AP' (A4' _ _) rfl⟩, ⟨_, rfl, Yc⟩, Ye⟩⟩⟩
  ·simp only [ch', true_and, and_true]; and_intros; all_goals first | (with_reducible exact Ye) | (with_reducible exact rfl) | (with_reducible exact Yb) | exact IK' _ | exact A3' rfl | exact Kw15'
  ·simp only [dkC, AO.ren, AV.rens]; have := hPV [(1010, 1010), (1011, 1011), (1012, 1100), (1014, 1014)]; simp only [List.cons_append, List.nil_append] at this; rw [this]; rfl
 | true =>
  refine ⟨[], AG' [hf' fCr 3 1], [], fun _ _ => noC, fun _ _ => noL, fun F => ?_⟩
  refine Yj (W9' us tr pp sa.length nk ck ok da sa PV O F) ⟨⟨?_, rfl, .inr ⟨rfl, [(1001, 1001), (1002, 1002), (1003, 1003), (1004, 1004), (1005, 1005), (1010, 1010), (1011, 1011), (1012, 1012)], by kernel_rfl, by kernel_rfl, ⟨Ya, Ya, Ya, Ya, Ye⟩, ⟨_, rfl, OW.of_eq ?_⟩, ⟨_, rfl, Yc⟩, ⟨_, rfl, Yc⟩, ⟨_, rfl, AP' rfl rfl⟩, ⟨_, rfl, AP' rfl rfl⟩, ⟨_, rfl, OW.of_eq (hO _).symm⟩, ⟨_, rfl, Yc⟩, ⟨_, rfl, Yc⟩, ⟨_, rfl, AP' rfl rfl⟩, Ye⟩⟩⟩
  ·simp only [ch', and_true]; exact A3' rfl
  ·simp only [dkC, AO.ren, AV.rens]; have := hPV [(1010, 1010), (1011, 1011), (1012, 1012)]; simp only [List.cons_append, List.nil_append] at this; rw [this]; rfl
theorem VI' (n : Nat) (R : Bs) : LTri Θ default (A8' fCr 20) (tms 0 120 aOt0) (oOt0 n R) (.exit 6) (tms 0 120 [(4, .slice 1016 0 1 2 (.lo 1))]) [(1012, rB R), (1016, .cells [sv nm1, sB 1012 n] tAf)] := by
 refine BP' (W := default) (g := fCr) (b := A8' fCr 20) (σ := Bool) 120 (fun s => match s with | false => aOt0 | true => aOt1) (fun s => match s with | false => oOt0 n R | true => oOt1 n R) (.exit 6) [(4, .slice 1016 0 1 2 (.lo 1))] [(1012, rB R), (1016, .cells [sv nm1, sB 1012 n] tAf)] (fun s => match s with | false => 1 | true => 0) kOt [4, 5, 104, 105, 106] (by intro h; cases h) (fun s => by cases s <;> rfl) rfl ?_ false; intro s
 cases s with
 | false =>
  refine ⟨[], AG' [ht' fCr 20 0, (fCr, 23, 0, hv (iv 1))], [], fun F hF => noC, fun _ _ => noL, fun F => ?_⟩
  refine Yj (WH' n R F) ⟨⟨?_, rfl, .inl ⟨rfl, true, Nat.lt_succ_self 0, [(1011, 1011), (1012, 1012), (1015, 1015), (1016, 1101)], by kernel_rfl, by kernel_rfl, ⟨Ya, Ya, Ya, Ya, Ya, Ye⟩, ⟨_, rfl, Yc⟩, ⟨_, rfl, AP' rfl rfl⟩, ⟨_, rfl, Yc⟩, ⟨_, rfl, Yc⟩, Ye⟩⟩⟩
  simp only [ch', true_and, and_true]; and_intros; all_goals first | (with_reducible exact Ye) | (with_reducible exact rfl) | exact A3' rfl | exact Ya | exact rfl
 | true =>
  refine ⟨[], AG' [hf' fCr 20 0], [], fun _ _ => noC, fun _ _ => noL, fun F => ?_⟩
  refine Yj (WG' n R F) ⟨⟨?_, rfl, .inr ⟨rfl, [(1012, 1012), (1016, 1016)], by kernel_rfl, by kernel_rfl, ⟨Ya, Ye⟩, ⟨_, rfl, AP' rfl rfl⟩, ⟨_, rfl, Yc⟩, Ye⟩⟩⟩
  simp only [ch', and_true]; exact A3' rfl
theorem UA' (n : Nat) (R : Bs) (F : HP) (hF : AL' W F) : L1OK Θ F (A8' fCr 20) (lOt n R) :=
 CX' (W := default) CL' (fun args => by
  split
  ·refine RO.read _ _ fun o => ?_
   split <;> first | exact RO.ret _ | exact RO.fail _
  ·exact RO.fail _) (fun _ _ => VI' n R) fun _ => by
  simp only [RT.pick]; exact BX' rfl rfl (A0' Ye (A0' rfl (A0' rfl (A0' Ye (A0' Ye A2'))))) (A0' ⟨Ye, rfl, Ye⟩ (A0' (AS' _ _) (A0' ⟨Ye, Ye⟩ A2'))) (A0' rfl A2') (A0' (AS' _ _) (A0' ⟨Ye, rfl, Ye⟩ A2'))
theorem U9' {W : World} (us tr : Int) (pp nk ck : Nat) (ok : Option Addr) (da sa : Bs) (PV : AV) (O : AO) (hb : sa.length <= big) (hp : 0 < sa.length) (hPV : ∀ l : List (Nat × Nat), PV.ren (sg ([(1001, 1001), (1002, 1002), (1003, 1003), (1004, 1004), (1005, 1005)] ++ l)) = PV) (hO : ∀ l : List (Nat × Nat), O.ren (sg ([(1001, 1001), (1002, 1002), (1003, 1003), (1004, 1004), (1005, 1005)] ++ l)) = O)
  (cPV : ∀ K : Nat -> Bool, K 1005 = true -> AV.cl K PV) (cO : ∀ K, O.cl K) (F : HP) : L1OK Θ F (A8' fCr 3) (lRg us tr pp sa.length nk ck ok da sa PV O) :=
 CX' (W := default) CL' (fun args => by split <;> first | exact RO.ret _ | exact RO.fail _) (fun _ _ => VD' us tr pp nk ck ok da sa PV O hb hp hPV hO) fun _ => by
  simp only [RT.pick]
  exact BX' rfl rfl (A0' rfl (A0' rfl (A0' Ye (A0' rfl (A0' rfl A2')))))
   (A0' ⟨rfl, cPV _ rfl, Ye, Ye, Ye⟩ (A0' ⟨Ye, rfl, Ye⟩ (A0' ⟨rfl, rfl, Ye⟩ (A0' (AS' _ _) (A0' (AS' _ _) (A0' (cO _) (A0' ⟨Ye, Ye, Ye⟩ (A0' Ye (A0' rfl A2')))))))))
   (A0' rfl (A0' rfl (A0' Ye (A0' rfl A2'))))
   (A0' ⟨rfl, cPV _ rfl, Ye, Ye, Ye⟩ (A0' ⟨Ye, rfl, Ye⟩ (A0' ⟨rfl, rfl, Ye⟩ (A0' (AS' _ _) (A0' (AS' _ _) (A0' (cO _) (A0' ⟨Ye, Ye, Ye⟩ (A0' ⟨Ye, rfl, Ye⟩ (A0' (AS' _ _) A2')))))))))
theorem gCr_ro : ∀ args, RO (gCr args) := fun args => by
 unfold gCr; split
 ·refine RO.read _ _ fun o => ?_
  split
  ·refine RO.read _ _ fun o => ?_
   split
   ·refine RO.read _ _ fun o => ?_
    split
    ·refine RO.read _ _ fun o => ?_
     split <;> first | exact RO.ret _ | exact RO.fail _
    ·exact RO.fail _
   ·exact RO.fail _
  ·exact RO.fail _
 ·exact RO.fail _
theorem lCr_ok {ok : Option Addr} {kp : List Bool} {xs : List Rs} {sa : Bs} (K : CrK W ok kp o xs sa) (us tr : Int) (pp ck : Nat) (da R : Bs) (hR : crS kp tr xs.length o 0 sa (xs.map (·.d)) = R) (F : HP) (hF : AL' W F) : L1OK Θ F (A8' fCr 7) (lCr us tr pp sa.length xs.length kp.length ck R.length ok da sa sa R (pwV o xs)) :=
 CX' hF gCr_ro (fun _ _ => XW' K us tr pp sa.length ck da sa R hR) fun _ => by
  simp only [RT.pick]
  exact BX' rfl rfl (A0' rfl (A0' rfl (A0' Ye (A0' rfl (A0' rfl (A0' Ye (A0' Ye A2')))))))
   (A0' ⟨rfl, rfl, Ye, Ye, Ye⟩ (A0' ⟨Ye, rfl, Ye⟩ (A0' ⟨rfl, rfl, Ye⟩ (A0' (AS' _ _) (A0' (AS' _ _) (A0' (B1' _ _) (A0' ⟨Ye, Ye, Ye⟩ (A0' ⟨Ye, rfl, Ye⟩ (A0' (AS' _ _) A2')))))))))
   (A0' rfl (A0' Ye (A0' rfl A2')))
   (A0' ⟨rfl, rfl, Ye, Ye, Ye⟩ (A0' ⟨Ye, rfl, Ye⟩ (A0' ⟨rfl, rfl, Ye⟩ (A0' (AS' _ _) (A0' (AS' _ _) (A0' (B1' _ _) (A0' ⟨Ye, Ye, Ye⟩ (A0' ⟨Ye, rfl, Ye⟩ (A0' (AS' _ _) A2')))))))))
def outH (n : Nat) (R : Bs) : LH := [(1030, .cells [sv nm1, sB 1031 n] tAf), (1031, rB R)]
theorem cr_run {ok : Option Addr} {kp : List Bool} {xs : List Rs} {sa : Bs} (K : CrK W ok kp o xs sa) (hp : 0 < sa.length) (hz : 0 < xs.length) (us tr : Int) (pp ck : Nat) (da R : Bs) (hR : crS kp tr xs.length o 0 sa (xs.map (·.d)) = R) :
  Tri Θ W fCr [.ptr 0 0, JI' ok kp.length ck tr] (uDO (pV xs.length) (.cells (vmap (pwV o xs)) tPw) us pp sa.length da sa) (.slice 1030 0 1 2 (.lo 1)) (outH R.length R) := by
 have hb : sa.length <= big := by have := K.sa; have := K.sz; show _ <= 140737488351232; omega
 have q1 := fun F => U9' (W := W) us tr pp kp.length ck ok da sa (pV xs.length) (.cells (vmap (pwV o xs)) tPw) hb hp (fun l => rfl) (fun l => by simp only [AO.ren, AK']) (fun K h => h) (fun K => B1' _ _) F
 have q2 := fun F hF => lCr_ok K us tr pp ck da R hR F hF
 have q3 := fun F hF => UA' (W := W) R.length R F hF
 refine AW' (con := [(fSo, cSo)]) (hints := BB') (lc := [(fCr, 3, A8' fCr 3, lRg us tr pp sa.length kp.length ck ok da sa (pV xs.length) (.cells (vmap (pwV o xs)) tPw)), (fCr, 7, A8' fCr 7, lCr us tr pp sa.length xs.length kp.length ck R.length ok da sa sa R (pwV o xs)), (fCr, 20, A8' fCr 20, lOt R.length R)]) kC6 χ (fun F _ => C6' (P3' F)) (fun F hF x hx => by
  rcases List.mem_cons.1 hx with rfl | hx
  ·exact q1 F
  ·rcases List.mem_cons.1 hx with rfl | hx
   ·exact q2 F hF
   ·obtain rfl := List.mem_singleton.1 hx
    exact q3 F hF) fun F => ?_
 refine Yj (X9' W us tr pp sa.length xs.length kp.length ck R.length ok da sa R (pwV o xs) F) ⟨⟨?_, (B6' (vs' := [.slice 1030 0 1 2 (.lo 1)]) (H' := [(1030, .cells [sv nm1, sB 1031 R.length] tAf), (1031, rB R)]) [(1030, 1122), (1031, 1121)] χ χ (Yb) ⟨⟨_, rfl, Yc⟩, ⟨_, rfl, AP' (A4' _ _) rfl⟩, Ye⟩).fits χ⟩⟩; clear q1 q2 q3
 simp only [ch', true_and, and_true]; and_intros; all_goals exact Kw13'
theorem XV' (ok : Option Addr) (us tr : Int) (pp nk ck : Nat) (da sa : Bs) (hb : sa.length <= big) (hp : 0 < sa.length) :
  Tri Θ default fCr [.ptr 0 0, JI' ok nk ck tr] (uDO nilS dumZ us pp sa.length da sa) (.slice 1030 0 1 2 (.lo 1)) (outH sa.length sa) := by
 have q1 := fun F => U9' (W := default) us tr pp nk ck ok da sa nilS dumZ hb hp (fun l => rfl) (fun l => rfl) (fun K h => trivial) (fun K => trivial) F
 have q3 := fun F hF => UA' (W := default) sa.length sa F hF
 refine AW' (con := [(fSo, cSo)]) (hints := BB') (lc := [(fCr, 3, A8' fCr 3, lRg us tr pp sa.length nk ck ok da sa nilS dumZ), (fCr, 20, A8' fCr 20, lOt sa.length sa)]) kC6 χ (fun F _ => C6' (P3' F)) (fun F hF x hx => by
  rcases List.mem_cons.1 hx with rfl | hx
  ·exact q1 F
  ·obtain rfl := List.mem_singleton.1 hx
   exact q3 F hF) fun F => ?_
 refine Yj (X6' us tr pp sa.length nk ck ok da sa dumZ F) ⟨fun h => (by cases h), fun _ => ⟨?_, (B6' (vs' := [.slice 1030 0 1 2 (.lo 1)]) (H' := [(1030, .cells [sv nm1, sB 1031 sa.length] tAf), (1031, rB sa)]) [(1030, 1114), (1031, 1113)] χ χ (Yb) ⟨⟨_, rfl, Yc⟩, ⟨_, rfl, AP' (A4' _ _) rfl⟩, Ye⟩).fits χ⟩⟩
 clear q1 q3
 simp only [ch', true_and, and_true]; and_intros; all_goals first | (with_reducible exact Ye) | (with_reducible exact rfl) | (with_reducible exact Ya) | (with_reducible exact Yb) | (with_reducible exact Yc) | exact rfl | exact Yc | exact Kw10'
def DT' (kp : List Bool) (tr : Int) (S rs : List Bs) : Bs := crS kp tr rs.length (cat S).length 0 (cat S) (rs.map AR')
theorem cr_tri (W : World) (S rs : List Bs) (ok : Option Addr) (kp : List Bool) (ck : Nat) (tr : Int) (hK : KAt W ok kp) (h0 : 0 < (cat S).length) (hz : (cat (S ++ rs)).length <= 1099511627776) (hk : rs.length < 1099511627776) :
  Tri Θ W fCr [.ptr 0 0, JI' ok kp.length ck tr] [(0, dO S rs)] (.slice 1030 0 1 2 (.lo 1)) (outH (DT' kp tr S rs).length (DT' kp tr S rs)) := by
 refine OR' (H0 := []) (by rfl) χ fun xs hx => ?_
 have hxl : xs.length = rs.length := by have := congrArg List.length hx; simpa using this
 have hsum : (cat (S ++ rs)).length = (cat S).length + lenR xs := by rw [GH', la', IE' xs rs hx]
 have hRe : crS kp tr xs.length (cat S).length 0 (cat S) (xs.map (·.d)) = DT' kp tr S rs := by rw [hx, hxl]; rfl
 have hpos : ∀ x ∈ xs, 0 < x.d.length := fun x hxm => by
  have : x.d ∈ rs.map AR' := by rw [<- hx]; exact List.mem_map.2 ⟨x, hxm, rfl⟩
  obtain ⟨r, _, hr⟩ := List.mem_map.1 this; rw [<- hr, B3']; omega
 cases xs with
 | nil =>
  have hs : DT' kp tr S rs = cat S := hRe.symm; rw [hs]; have := (XV' ok (o' (cat (S ++ rs)).length) tr (cat (S ++ rs)).length kp.length ck (cat (S ++ rs)) (cat S) (by show _ <= 140737488351232; omega) h0); refine Tri.pre ?_ (fun W0 F N w vargs _ => this W0 F N w vargs CL'); refine H6' χ χ (Yb) (fun i o h => ?_) ⟨rfl, ⟨Ye, Ye, Ye⟩, Ye⟩ (A0' ⟨rfl, Ye, Ye, Ye, Ye⟩ (A0' ⟨Ye, rfl, Ye⟩ (A0' ⟨rfl, rfl, Ye⟩ (A0' (AS' _ _) (A0' (AS' _ _) (A0' Ye A2')))))); show getO (uDO nilS dumZ (o' (cat (S ++ rs)).length) (cat (S ++ rs)).length (cat S).length (cat (S ++ rs)) (cat S) ++ [(1006, AO.any (frz (PB [])))]) i = some o; rw [BE', h]
 | cons x xs =>
  have := QG' (P := Θ) (W := W) (f := fCr) (A := [.ptr 0 0, JI' ok kp.length ck tr]) (H1 := uDO (pV (x :: xs).length) (.cells (vmap (pwV (cat S).length (x :: xs))) tPw) (o' (cat (S ++ rs)).length) (cat (S ++ rs)).length (cat S).length (cat (S ++ rs)) (cat S)) (H1' := outH (DT' kp tr S rs).length (DT' kp tr S rs)) (v := .slice 1030 0 1 2 (.lo 1)) (PR := PB (x :: xs)) 1006 δ rfl rfl χ χ
   ⟨rfl, ⟨Ye, Ye, Ye⟩, Ye⟩
   (A0' ⟨rfl, rfl, Ye, Ye, Ye⟩ (A0' ⟨Ye, rfl, Ye⟩ (A0' ⟨rfl, rfl, Ye⟩ (A0' (AS' _ _) (A0' (AS' _ _) (A0' (B1' _ _) A2'))))))
   (fun C C' h hP => hP.mono h)
   (fun W' hW hP => cr_run ⟨⟨hK.le, fun i b hb => by
    obtain ⟨ak, e, q⟩ := hK.at' i b hb
    exact ⟨ak, e, hW _ _ q⟩⟩, hP, hpos, Yd, by omega, by rw [hxl]; exact hk⟩ h0 (by simp) (o' (cat (S ++ rs)).length) tr (cat (S ++ rs)).length ck (cat (S ++ rs)) (DT' kp tr S rs) hRe)
  refine Tri.post this ?_; exact H6' χ χ (Yb) (fun i o h => by rw [BE', h]) ⟨rfl, Ye⟩ (A0' ⟨Ye, rfl, Ye⟩ (A0' (AS' _ _) A2'))
abbrev fDf : Nat := 74
abbrev fIx : Nat := 98
abbrev fGe : Nat := 32
abbrev fRd : Nat := 33
abbrev fCu : Nat := 36
theorem X5' (F : HP) : wRun [] (AG' [hf' fIx 2 0, ht' fDf 2 1]) [] default fDf [nilS, .any] [] [] F = VT.leaf (e') [] 1100 (((f' (Wk (b' false) g')).a t').a (k22'.a k1')) := χ
def aDo0 : List (Nat × AV) := [(6, .ptr 1040 0), (7, sv ⟨⟨[]⟩⟩), (14, .slice 1030 0 1 2 (.lo 1)), (15, iv 1), (16, iv 0)]
def aDo1 : List (Nat × AV) := [(6, .ptr 1040 0), (7, sv nm1), (14, .slice 1030 0 1 2 (.lo 1)), (15, iv 1), (16, iv 1)]
def oDo0 (n : Nat) (R : Bs) : LH := outH n R ++ [(1040, .cells [.map 1041, nilS, iv 1099511627776, iv 0] tDk), (1041, .map [] 0)]
def oDo1 (n : Nat) (R : Bs) : LH := outH n R ++ [(1040, .cells [.map 1041, nilS, iv 1099511627776, iv (o' n)] tDk), (1041, .map [(sv nm1, .ptr 1042 0, 0)] 1), (1042, .cells [sB 1043 n, sB 1044 n] tFi), (1043, rB R), (1044, rB R)]
def kDo : List Nat := [1030, 1031, 1040, 1041, 1042, 1043, 1044, 1100, 1101, 1102, 1103, 1104, 1105, 1106]
theorem X4' (n : Nat) (R : Bs) (F : HP) : B9' [(fGn, cGn), (fCl, cClB n R)] (AG' [ht' fDo 4 0, hf' fDo 6 3, hf' fDo 6 4, hf' fDo 8 3, hf' fDo 8 4, (fDo, 12, 7, hv (iv (o' n))), (fDo, 13, 0, hv (iv 1))]) [] default fDo (A8' fDo 4) (tms 0 58 aDo0) (oDo0 n R) kDo [6, 7, 14, 15, 16] F = VT.leaf (AX.normal,[pt' 1040 0,s' nm1,AV.slice 1030 0 1 2 (Cp.lo 1),i' 1,i' 1],58) [some (ce' [s' nm1,AV.slice 1031 0 n 1 (Cp.lo n)] 108),some (ce' (AV.rens (sgN (fun k => match k with | 0 => 1031 | k => k) [1000] 1102) (rowV encB R)) 10),some (ce' [AV.map 1041,e',i' 1099511627776,i' n] 142),some (AO.map [(s' nm1,pt' 1103 0,0)] 1),none,none,none,some (ce' [s' nm1,AV.slice 1031 0 n 1 (Cp.lo n)] 108),some (ce' (AV.rens (sgN (fun k => match k with | 0 => 1031 | k => k) [1000] 1101) (rowV encB R)) 10),some (ce' (AV.rens (sgN (fun k => match k with | 0 => 1031 | k => k) [1000] 1102) (rowV encB R)) 10),some (ce' [AV.slice 1101 0 n 1 (Cp.lo n),AV.slice 1102 0 n 1 (Cp.lo n)] 148),none,none,none] 1104 (h11' ((ee' [s' nm1,AV.slice 1031 0 n 1 (Cp.lo n)]).a (k8'.a (k28'.a (((p' (nm1 = nm1 \/ nm1 = nmL)).a (f' (VW [s' nm1] [s' nm1]))).a (k6'.a (k41'.a (k28'.a (k6'.a (k41'.a (k28'.a (k8'.a (k28'.a (k8'.a ((k14' 1031 n R).a (k8'.a (((Cnd.p True).a ((vw' [AV.slice 1031 0 n 1 (Cp.lo n)]).a (f' (OW (ce' (AV.rens (sgN (fun k => match k with | 0 => 1031 | k => k) [1000] 1101) (rowV encB R)) 10) (ce' (AV.rens (fun k => match k with | 0 => 1031 | k => k) (rowV encB R)) 10))))).a (((p' (findKey Tryz.prog (envW [(29,cGn),(30,cClB n R)] (AG' [(9,4,0,hv j'),(9,6,3,hv g'),(9,6,4,hv g'),(9,8,3,hv g'),(9,8,4,hv g'),(9,12,7,hv (i' n)),(9,13,0,hv (i' 1))]) [] default F) 9 (s' nm1) [] 0 = AP.ret none)).a (f' (E4' (s' nm1) []))).a (k31'.a (k8'.a ((f' (Wk (z' (IntKind.i64.wrap (o' 0 + ↑n))) (i' n))).a (k8'.a (k13'.a k1'))))))))))))))))))))))) := χ
theorem X3' (n : Nat) (R : Bs) (F : HP) : B9' [] (AG' [hf' fDo 4 0]) [] default fDo (A8' fDo 4) (tms 0 58 aDo1) (oDo1 n R) kDo [6, 7, 14, 15, 16] F = VT.leaf (AX.exit 0,[pt' 1040 0,s' nm1,AV.slice 1030 0 1 2 (Cp.lo 1),i' 1,i' 1],58) [some (ce' [s' nm1,AV.slice 1031 0 n 1 (Cp.lo n)] 108),some (ce' (rowV encB R) 10),some (ce' [AV.map 1041,e',i' 1099511627776,i' n] 142),some (AO.map [(s' nm1,pt' 1042 0,0)] 1),some (ce' [AV.slice 1043 0 n 1 (Cp.lo n),AV.slice 1044 0 n 1 (Cp.lo n)] 148),some (ce' (rowV encB R) 10),some (ce' (rowV encB R) 10),none,none,none,none,none,none,none] 1100 (k6'.a k1') := χ
def lDo (n : Nat) (R : Bs) : List AV -> AP (AX × List AV) := mkL (fun tmps => match tmps.getD 6 .any with
 | .ptr i 0 => .read i fun o => match o with
  | .cells [.map m, _, _, _] _ => .ret [(1040, i), (1041, m)]
  | _ => .fail "disk"
 | _ => .fail "disk") (fun _ => True) nmF (fun _ => tms 0 58 aDo0) (fun _ => oDo0 n R) (fun _ => .leaf (.exit 0) (tms 0 58 [(6, .ptr 1040 0)]) (oDo1 n R))
theorem X2' (n : Nat) (R : Bs) (F : HP) : wRun [] BB' [(fDo, 4, A8' fDo 4, lDo n R)] default fDo [.slice 1030 0 1 2 (.lo 1), iv 1099511627776] (outH n R) [1030, 1031, 1100, 1101, 1102, 1103, 1104, 1105, 1106, 1107, 1108, 1109, 1110] F = VT.leaf (AV.tuple [pt' 1104 0,i' 0]) [none,none,none,none,some (ce' [s' nm1,AV.slice 1103 0 n 1 (Cp.lo n)] 108),some (ce' (AV.rens (sgN (nmF [(1040,1101),(1041,1100)]) [1030,1031,1040,1041,1042,1043,1044] 1102) (rowV encB R)) 10),some (ce' [AV.map 1105,e',i' 1099511627776,i' n] 142),some (AO.map [(s' nm1,pt' 1106 0,0)] 1),some (ce' [AV.slice 1107 0 n 1 (Cp.lo n),AV.slice 1108 0 n 1 (Cp.lo n)] 148),some (ce' (AV.rens (sgN (nmF [(1040,1101),(1041,1100)]) [1030,1031,1040,1041,1042,1043,1044] 1102) (rowV encB R)) 10),some (ce' (AV.rens (sgN (nmF [(1040,1101),(1041,1100)]) [1030,1031,1040,1041,1042,1043,1044] 1102) (rowV encB R)) 10),none,none] 1109 ((p' ((fDo,4,A8' fDo 4,lDo n R).snd.snd.fst = (fDo,4,A8' fDo 4,lDo n R).snd.snd.fst)).a (k4'.a ((p' (VW (AV.slice 1030 0 1 2 (Cp.lo 1)::i' 1099511627776::u'::u'::v' (Value.pointer none)::i' 0::pt' 1101 0::s' (ByteArray.mk (Array.mk []))::u'::u'::AV.map 1100::i' 1099511627776::AV.agg [AV.map 1100,e',i' 1099511627776,i' 0]::pt' 1101 0::AV.slice 1030 0 1 2 (Cp.lo 1)::i' 1::i' 0::ru16 (ru16 (ru8 (u'::[])))) (ra4 (a'::a'::pt' 1101 0::s' (ByteArray.mk (Array.mk []))::ra4 (a'::a'::AV.slice 1030 0 1 2 (Cp.lo 1)::i' 1::i' 0::ra16 (ra16 (ra8 (a'::[])))))))).a ((ow' (ce' [s' nm1,AV.slice 1031 0 n 1 (Cp.lo n)] 108)).a ((p' (OW (ce' (rowV encB R) 10) (ce' (AV.rens (nmF [(1040,1101),(1041,1100)]) (rowV encB R)) 10))).a ((ow' (ce' [AV.map 1100,e',i' 1099511627776,i' 0] 142)).a (k51'.a k1'))))))) := χ
end Go.Proofs.YtgahllbgipdchaaGreatDoor.Wk
