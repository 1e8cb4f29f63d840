/- Parts of the proof, merged. -/
import Derived.Test.YtgahllbgipdchaaGreatDoorWrn5
import Derived.Test.YtgahllbgipdchaaGreatDoorWrn2
import Derived.Test.YtgahllbgipdchaaGreatDoorWrn4
noncomputable section
set_option linter.unusedVariables false
set_option linter.unusedSimpArgs false
set_option maxRecDepth 100000
set_option linter.unusedSectionVars false
namespace Go.Proofs.YtgahllbgipdchaaGreatDoor.Wk
open Go Go.RowKit Eng Kit Tree
open Int renaming ofNat -> o'
open Go.Value renaming int -> vi'
open AO renaming cells -> ce'
open AV renaming v -> v'
open AV renaming ptr -> pt'
open Go.IntKind renaming u8 -> u8'
open Cnd renaming p -> cp'
open Cnd renaming holds -> ch'
open Nat renaming blt_eq -> bl'
open List renaming length_append -> la'
open List renaming length_drop -> ld'
open List renaming append_assoc -> as'
open Go.Value renaming slice -> sl'
variable {W : World} {c : Nat}
noncomputable section
abbrev fRwl : Nat := 25
def pwO (n : Nat) : AO := .cells [sv nm2, iv 0, sB 1006 n] tPw
def yD (u p n : Nat) (X : AV) (S0 w : Bs) : LH := [(0, .cells [.map 1001, .slice 1005 0 1 3 (.lo 1), iv 1099511627776, iv (o' u)] tDk), (1001, .map [(sv nm1, .ptr 1002 0, 0), (sv nm2, .ptr 1007 0, 1)] 2), (1002, fiC p p), (1003, rB S0), (1004, rB S0), (1005, pwO n), (1006, rB w), (1007, .cells [sB 1008 n, X] tFi), (1008, rB w)]
def aRy (i : Nat) : List (Nat × AV) := [(0, .ptr 0 0), (8, .slice 1005 0 1 3 (.lo 1)), (9, iv 1), (10, iv (o' i))]
def oRy0 (u p n : Nat) (S0 w : Bs) : LH := yD u p n nilS S0 w
def oRy1 (u p n : Nat) (S0 w : Bs) : LH := yD u p n (sB 1009 n) S0 w ++ [(1009, rB w)]
def kRy : List Nat := [0, 1001, 1002, 1003, 1004, 1005, 1006, 1007, 1008, 1009, 1100, 1101, 1102, 1103]
theorem YJ' (u p n : Nat) (S0 w : Bs) (F : HP) : AS' [(fCl, cClB n w)] (AC' [ht' fDs 1 0, (fDs, 5, 0, hv (iv 1))]) [] default fDs (A4' fDs 1) (tms 0 33 (aRy 0)) (oRy0 u p n S0 w) kRy [0, 8, 9, 10] F = VT.leaf (AX.normal,[pt' 0 0,AV.slice 1005 0 1 3 (Cp.lo 1),i' 1,i' 1],33) [some (ce' [AV.map 1001,AV.slice 1005 0 1 3 (Cp.lo 1),i' 1099511627776,i' u] 142),some (AO.map [(s' nm1,pt' 1002 0,0),(s' nm2,pt' 1007 0,1)] 2),some (ce' [AV.slice 1003 0 p 1 (Cp.lo p),AV.slice 1004 0 p 1 (Cp.lo p)] 148),some (ce' (rowV encB S0) 10),some (ce' (rowV encB S0) 10),some (ce' [s' nm2,i' 0,AV.slice 1006 0 n 1 (Cp.lo n)] 182),some (ce' (rowV encB w) 10),some (ce' [AV.slice 1008 0 n 1 (Cp.lo n),AV.slice 1101 0 n 1 (Cp.lo n)] 148),some (ce' (AV.rens (sgN (fun k => match k with | 0 => 1008 | k => k) [1000] 1101) (rowV encB w)) 10),none,some (ce' [s' nm2,i' 0,AV.slice 1006 0 n 1 (Cp.lo n)] 182),some (ce' (AV.rens (sgN (fun k => match k with | 0 => 1008 | k => k) [1000] 1101) (rowV encB w)) 10),none,none] 1102 (h13' ((ee' [s' nm2,i' 0,AV.slice 1006 0 n 1 (Cp.lo n)]).a (h17' ((ee' (s' nm2)).a ((f' (findKey Tryz.prog (envW [(30,cClB n w)] (AC' [(47,1,0,hv j'),(47,5,0,hv (i' 1))]) [] default F) 9 (s' nm2) [(s' nm1,pt' 1002 0,0),(s' nm2,pt' 1007 0,1)] 0 = AP.ret (some (1,pt' 1007 0)))).a (k10'.a ((k16' 1008 n w).a (k10'.a (k15'.a k1'))))))))) := χ
theorem YI' (u p n : Nat) (S0 w : Bs) (F : HP) : AS' [] (AC' [hf' fDs 1 0]) [] default fDs (A4' fDs 1) (tms 0 33 (aRy 1)) (oRy1 u p n S0 w) kRy [0, 8, 9, 10] F = VT.leaf (AX.exit 0,[pt' 0 0,AV.slice 1005 0 1 3 (Cp.lo 1),i' 1,i' 1],33) [some (ce' [AV.map 1001,AV.slice 1005 0 1 3 (Cp.lo 1),i' 1099511627776,i' u] 142),some (AO.map [(s' nm1,pt' 1002 0,0),(s' nm2,pt' 1007 0,1)] 2),some (ce' [AV.slice 1003 0 p 1 (Cp.lo p),AV.slice 1004 0 p 1 (Cp.lo p)] 148),some (ce' (rowV encB S0) 10),some (ce' (rowV encB S0) 10),some (ce' [s' nm2,i' 0,AV.slice 1006 0 n 1 (Cp.lo n)] 182),some (ce' (rowV encB w) 10),some (ce' [AV.slice 1008 0 n 1 (Cp.lo n),AV.slice 1009 0 n 1 (Cp.lo n)] 148),some (ce' (rowV encB w) 10),some (ce' (rowV encB w) 10),none,none,none,none] 1100 (k7'.a k1') := χ
def gRy (tmps : List AV) : AP (List (Nat × Nat)) := match tmps.getD 8 .any with
 | .slice q _ _ _ _ => .read q fun o => match o with
  | .cells [_, _, .slice d _ _ _ _] _ => .read 0 fun o => match o with
   | .cells [.map m, _, _, _] _ => .read m fun o => match o with
    | .map [(_, .ptr f 0, _), (_, .ptr g 0, _)] _ => .read f fun o => match o with
     | .cells [.slice x _ _ _ _, .slice y _ _ _ _] _ => .read g fun o => match o with
      | .cells [.slice x2 _ _ _ _, _] _ => .ret [(1001, m), (1002, f), (1003, x), (1004, y), (1005, q), (1006, d), (1007, g), (1008, x2)]
      | _ => .fail "file"
     | _ => .fail "file"
    | _ => .fail "files"
   | _ => .fail "disk"
  | _ => .fail "pending"
 | _ => .fail "pending"
def lRy (u p n : Nat) (S0 w : Bs) : List AV -> AP (AX × List AV) := mkL gRy (fun _ => True) nmF (fun _ => tms 0 33 (aRy 0)) (fun _ => oRy0 u p n S0 w) (fun _ => .leaf (.exit 0) (tms 0 33 [(0, .ptr 0 0)]) (oRy1 u p n S0 w))
def conRm (n : Nat) (w : Bs) : E7' := [(fWp, cWm n w), (fIt, cK2 gI2 [iv 1] [iv 2] (sv nmO) (sv nmT)), (fGn, cGm), (fCl, cClB n w), (fDf, cDf)]
def conRo (m n : Nat) (r w : Bs) : E7' := [(fWp, cWo m n r w), (fIt, cK2 gI2 [iv 1] [iv 2] (sv nmO) (sv nmT)), (fGn, cGm), (fCl, cClB n w), (fDf, cDf)]
def hRnw (u n : Nat) : BD' := AC' [hf' fRwl 1 4, (fRwl, 3, 5, hv (iv 2)), hf' fRwl 4 1, (fRwl, 8, 4, hv (iv 2)), hf' fPt 2 1, hf' fDa 1 2, hf' fDa 3 8, hf' fDa 3 21, ht' fDa 6 1, (fDa, 11, 6, hv (iv (o' u))), hf' fRmv 2 1, (fRmv, 4, 9, hv (iv (o' n)))]
def kRnw : List Nat := [0, 1001, 1002, 1003, 1004, 2, 4, 1100, 1101, 1102, 1103, 1104, 1105, 1106, 1107, 1108, 1109, 1110, 1111, 1112, 1113, 1114, 1115, 1116, 1117, 1118, 1119, 1120]
abbrev k102' : Cnd := ((ee' (s' nmL)).a (((p' True).a (f' (VW [i' 1] [i' 1]))).a t'))
theorem YS' (W : World) (u p n : Nat) (sz : Int) (S0 w : Bs) (F : HP) : wRun (conRm n w) (hRnw u n) [(fDs, 1, A4' fDs 1, lRy u p n S0 w)] W fRwl [.ptr 2 0, .mt] (uD5 (o' p) p p S0 S0 ++ [(2, lgC sz)]) kRnw F = VT.leaf (i' 0) [some (ce' [AV.map 1106,e',i' 1099511627776,i' n] 142),none,none,none,none,some (ce' [pt' 0 0,s' nmL,i' 2,z' ↑n] 154),none,some (ce' (AV.rens (sgN (fun k => match k with | 0 => sgN ((fun x k => k) ()) (newL [(1000,rB w)]) 1100 1000 | k => k) [1000] 1102) (rowV encB w)) 10),none,none,some (ce' [s' (nmL ++ ByteArray.mk (Array.mk [46]) ++ nmT),i' 0,AV.slice 1102 0 n 1 (Cp.lo n)] 182),none,none,some (AO.map [(s' nm2,pt' 1112 0,1)] 2),some (ce' [AV.slice 1108 0 p 1 (Cp.lo p),AV.slice 1109 0 p 1 (Cp.lo p)] 148),some (ce' (AV.rens (sgN (nmF [(1001,1001),(1002,1002),(1003,1003),(1004,1004),(1005,1104),(1006,1102),(1007,1101),(1008,1105)]) [1001,1002,1003,1004,1005,1006,1007,1008,1009] 1106) (rowV encB S0)) 10),some (ce' (AV.rens (sgN (nmF [(1001,1001),(1002,1002),(1003,1003),(1004,1004),(1005,1104),(1006,1102),(1007,1101),(1008,1105)]) [1001,1002,1003,1004,1005,1006,1007,1008,1009] 1106) (rowV encB S0)) 10),some (ce' [s' nm2,i' 0,AV.slice 1111 0 n 1 (Cp.lo n)] 182),some (ce' (AV.rens (sgN (nmF [(1001,1001),(1002,1002),(1003,1003),(1004,1004),(1005,1104),(1006,1102),(1007,1101),(1008,1105)]) [1001,1002,1003,1004,1005,1006,1007,1008,1009] 1106) (rowV encB w)) 10),some (ce' [AV.slice 1113 0 n 1 (Cp.lo n),AV.slice 1114 0 n 1 (Cp.lo n)] 148),some (ce' (AV.rens (sgN (nmF [(1001,1001),(1002,1002),(1003,1003),(1004,1004),(1005,1104),(1006,1102),(1007,1101),(1008,1105)]) [1001,1002,1003,1004,1005,1006,1007,1008,1009] 1106) (rowV encB w)) 10),some (ce' (AV.rens (sgN (nmF [(1001,1001),(1002,1002),(1003,1003),(1004,1004),(1005,1104),(1006,1102),(1007,1101),(1008,1105)]) [1001,1002,1003,1004,1005,1006,1007,1008,1009] 1106) (rowV encB w)) 10),some (ce' [s' (nmL ++ ByteArray.mk (Array.mk [46]) ++ nmO)] 18),none,none,none,none,none] 1116 (k36'.a (k7'.a (k36'.a (k9'.a ((((cp' True).a (f' (VW [AV.mt] [AV.mt]))).a ((f' (Wk (b' false) g')).a ((fe' true).a (((ee' (s' nmL)).a (((cp' True).a (f' (VW [i' 2] [i' 2]))).a t')).a ((((p' (nmL ++ ByteArray.mk (Array.mk [46]) ++ nmT = nm1 \/ nmL ++ ByteArray.mk (Array.mk [46]) ++ nmT = nmL \/ nmL ++ ByteArray.mk (Array.mk [46]) ++ nmT = nm2)).a (f' (VW [s' (nmL ++ ByteArray.mk (Array.mk [46]) ++ nmT)] [s' (nmL ++ ByteArray.mk (Array.mk [46]) ++ nmT)]))).a ((f' (Wk (b' false) g')).a ((ee' (i' 1099511627776)).a ((ee' (i' p)).a ((wb' (decide (o' 1099511627776 < o' p)) g').a ((ee' (i' 1099511627776)).a ((ee' (i' p)).a ((wb' (decide (↑n > IntKind.i64.wrap (o' 1099511627776 - o' p))) g').a ((fe' true).a ((f' (findKey Tryz.prog (envW [(60,cWm n w),(56,cK2 gI2 [i' 1] [i' 2] (s' nmO) (s' nmT)),(29,cGm),(30,cClB n w),(74,cDf)] (hRnw u n) [(47,1,A4' 47 1,lRy u p n S0 w)] W F) 9 (s' (nmL ++ ByteArray.mk (Array.mk [46]) ++ nmT)) [(s' nm1,pt' 1002 0,0)] 0 = AP.ret none)).a ((f' (Wk (b' true) j')).a ((fe' true).a (((p' (findKey Tryz.prog (envW [(60,cWm n w),(56,cK2 gI2 [i' 1] [i' 2] (s' nmO) (s' nmT)),(29,cGm),(30,cClB n w),(74,cDf)] (hRnw u n) [(47,1,A4' 47 1,lRy u p n S0 w)] W F) 9 (s' (nmL ++ ByteArray.mk (Array.mk [46]) ++ nmT)) [(s' nm1,pt' 1002 0,0)] 0 = AP.ret none)).a (f' (CN' (s' (nmL ++ ByteArray.mk (Array.mk [46]) ++ nmT)) [(s' nm1,pt' 1002 0,0)]))).a ((fe' true).a ((fe' true).a (((cp' True).a ((vw' [AV.slice 1100 0 n 1 (Cp.lo n)]).a (f' (OW (ce' (AV.rens (sgN (fun k => k) [1000] 1100) (rowV encB w)) 10) (ce' (AV.rens (fun k => match k with | 0 => sgN ((fun x k => k) ()) (newL [(1000,rB w)]) 1100 1000 | k => k) (rowV encB w)) 10))))).a ((tt'.a (tt'.a (tt'.a (tt'.a (ee' true))))).a ((fe' true).a ((fe' true).a (((p' (n.ble n = true)).a ((p' ((List.take (n * 1) (List.drop 0 (AV.rens (sgN (fun k => match k with | 0 => sgN ((fun x k => k) ()) (newL [(1000,rB w)]) 1100 1000 | k => k) [1000] 1102) (rowV encB w)))).length.beq (n * 1) = true)).a ((p' ((List.take (n * 1) (List.drop 0 (AV.rens (sgN (fun k => match k with | 0 => sgN ((fun x k => k) ()) (newL [(1000,rB w)]) 1100 1000 | k => k) [1000] 1102) (rowV encB w)))).all AV.one = true)).a ((p' (Nat.blt 0 n = true)).a ((p' ((n * 1).ble 140737488355328 = true)).a (f' (n.ble 9223372036854775807 = true))))))).a ((fe' true).a ((ee' (i' p)).a ((f' (Wk (z' (IntKind.i64.wrap (o' p + ↑n))) (i' u))).a ((fe' true).a t')))))))))))))))))))))))).a t'))))).a (k7'.a (k10'.a (((fe' true).a ((p' ((fDs,1,A4' fDs 1,lRy u p n S0 w).snd.snd.fst = (fDs,1,A4' fDs 1,lRy u p n S0 w).snd.snd.fst)).a ((cp' True).a ((p' (VW (pt' 0 0::ru4 (pt' 0 0::pt' 0 0::pt' 0 1::AV.slice 1104 0 1 3 (Cp.lo 1)::i' 1::i' 0::ru16 (ru4 (u'::u'::[])))) (pt' 0 0::ra4 (a'::a'::a'::AV.slice 1104 0 1 3 (Cp.lo 1)::i' 1::i' 0::ra16 (ra4 (a'::a'::[])))))).a ((ow' (ce' [AV.map 1001,AV.slice 1104 0 1 3 (Cp.lo 1),i' 1099511627776,i' u] 142)).a ((p' (OW (AO.map [(s' nm1,pt' 1002 0,0),(s' (nmL ++ ByteArray.mk (Array.mk [46]) ++ nmT),pt' 1101 0,1)] 2) (AO.map [(s' nm1,pt' 1002 0,0),(s' nm2,pt' 1101 0,1)] 2))).a ((ow' (ce' [AV.slice 1003 0 p 1 (Cp.lo p),AV.slice 1004 0 p 1 (Cp.lo p)] 148)).a ((p' (OW (ce' (rowV encB S0) 10) (ce' (AV.rens (nmF [(1001,1001),(1002,1002),(1003,1003),(1004,1004),(1005,1104),(1006,1102),(1007,1101),(1008,1105)]) (rowV encB S0)) 10))).a ((p' (OW (ce' (rowV encB S0) 10) (ce' (AV.rens (nmF [(1001,1001),(1002,1002),(1003,1003),(1004,1004),(1005,1104),(1006,1102),(1007,1101),(1008,1105)]) (rowV encB S0)) 10))).a ((p' (OW (ce' [s' (nmL ++ ByteArray.mk (Array.mk [46]) ++ nmT),i' 0,AV.slice 1102 0 n 1 (Cp.lo n)] 182) (ce' [s' nm2,i' 0,AV.slice 1102 0 n 1 (Cp.lo n)] 182))).a ((p' (OW (ce' (AV.rens (sgN (fun k => match k with | 0 => sgN ((fun x k => k) ()) (newL [(1000,rB w)]) 1100 1000 | k => k) [1000] 1102) (rowV encB w)) 10) (ce' (AV.rens (nmF [(1001,1001),(1002,1002),(1003,1003),(1004,1004),(1005,1104),(1006,1102),(1007,1101),(1008,1105)]) (rowV encB w)) 10))).a ((ow' (ce' [AV.slice 1105 0 n 1 (Cp.lo n),e'] 148)).a ((p' (OW (ce' (List.take (n * 1) (List.drop 0 (AV.rens (sgN (fun k => match k with | 0 => sgN ((fun x k => k) ()) (newL [(1000,rB w)]) 1100 1000 | k => k) [1000] 1102) (rowV encB w)))) 10) (ce' (AV.rens (nmF [(1001,1001),(1002,1002),(1003,1003),(1004,1004),(1005,1104),(1006,1102),(1007,1101),(1008,1105)]) (rowV encB w)) 10))).a ((fe' true).a t')))))))))))))).a (k10'.a (k36'.a (k102'.a (((fe' true).a ((f' (findKey Tryz.prog (envW [(60,cWm n w),(56,cK2 gI2 [i' 1] [i' 2] (s' nmO) (s' nmT)),(29,cGm),(30,cClB n w),(74,cDf)] (hRnw u n) [(47,1,A4' 47 1,lRy u p n S0 w)] W F) 9 (s' (nmL ++ ByteArray.mk (Array.mk [46]) ++ nmO)) [(s' nm1,pt' 1107 0,0),(s' nm2,pt' 1112 0,1)] 0 = AP.ret (some (0,pt' 1107 0)))).a ((f' (Wk (b' false) g')).a ((ee' (i' u)).a ((fe' true).a ((f' (Wk (z' (IntKind.i64.wrap (o' u - ↑p))) (i' n))).a ((fe' true).a ((fe' true).a ((f' (findKey Tryz.prog (envW [(60,cWm n w),(56,cK2 gI2 [i' 1] [i' 2] (s' nmO) (s' nmT)),(29,cGm),(30,cClB n w),(74,cDf)] (hRnw u n) [(47,1,A4' 47 1,lRy u p n S0 w)] W F) 9 (s' (nmL ++ ByteArray.mk (Array.mk [46]) ++ nmO)) [(s' nm1,pt' 1107 0,0),(s' nm2,pt' 1112 0,1)] 0 = AP.ret (some (0,pt' 1107 0)))).a (((fe' true).a (((cp' True).a (f' (VW [e',AV.func (Fn.func 75) [] [pt' 1115 0]] [e',a']))).a ((fe' true).a t'))).a t')))))))))).a (k36'.a (k9'.a (h17' k1'))))))))))))))) := χ
theorem YR' (W : World) (u p m n : Nat) (sz : Int) (S0 r w : Bs) (F : HP) : wRun (conRo m n r w) (hRnw u n) [(fDs, 1, A4' fDs 1, lRy u p n S0 w)] W fRwl [.ptr 2 0, sB 4 m] (uD5 (o' p) p p S0 S0 ++ [(2, lgC sz), (4, rB r)]) kRnw F = VT.leaf (i' 0) [some (ce' [AV.map 1106,e',i' 1099511627776,i' n] 142),none,none,none,none,some (ce' [pt' 0 0,s' nmL,i' 2,z' ↑n] 154),some (ce' (AV.rens (sgN (nmW 4) [1000] 1100) (rowV encB r)) 10),some (ce' (AV.rens (sgN (fun k => match k with | 0 => sgN (nmW 4) (newL [(0,rB r),(1000,rB w)]) 1100 1000 | k => k) [1000] 1102) (rowV encB w)) 10),none,none,some (ce' [s' (nmL ++ ByteArray.mk (Array.mk [46]) ++ nmT),i' 0,AV.slice 1102 0 n 1 (Cp.lo n)] 182),none,none,some (AO.map [(s' nm2,pt' 1112 0,1)] 2),some (ce' [AV.slice 1108 0 p 1 (Cp.lo p),AV.slice 1109 0 p 1 (Cp.lo p)] 148),some (ce' (AV.rens (sgN (nmF [(1001,1001),(1002,1002),(1003,1003),(1004,1004),(1005,1104),(1006,1102),(1007,1101),(1008,1105)]) [1001,1002,1003,1004,1005,1006,1007,1008,1009] 1106) (rowV encB S0)) 10),some (ce' (AV.rens (sgN (nmF [(1001,1001),(1002,1002),(1003,1003),(1004,1004),(1005,1104),(1006,1102),(1007,1101),(1008,1105)]) [1001,1002,1003,1004,1005,1006,1007,1008,1009] 1106) (rowV encB S0)) 10),some (ce' [s' nm2,i' 0,AV.slice 1111 0 n 1 (Cp.lo n)] 182),some (ce' (AV.rens (sgN (nmF [(1001,1001),(1002,1002),(1003,1003),(1004,1004),(1005,1104),(1006,1102),(1007,1101),(1008,1105)]) [1001,1002,1003,1004,1005,1006,1007,1008,1009] 1106) (rowV encB w)) 10),some (ce' [AV.slice 1113 0 n 1 (Cp.lo n),AV.slice 1114 0 n 1 (Cp.lo n)] 148),some (ce' (AV.rens (sgN (nmF [(1001,1001),(1002,1002),(1003,1003),(1004,1004),(1005,1104),(1006,1102),(1007,1101),(1008,1105)]) [1001,1002,1003,1004,1005,1006,1007,1008,1009] 1106) (rowV encB w)) 10),some (ce' (AV.rens (sgN (nmF [(1001,1001),(1002,1002),(1003,1003),(1004,1004),(1005,1104),(1006,1102),(1007,1101),(1008,1105)]) [1001,1002,1003,1004,1005,1006,1007,1008,1009] 1106) (rowV encB w)) 10),some (ce' [s' (nmL ++ ByteArray.mk (Array.mk [46]) ++ nmO)] 18),none,none,none,none,none] 1116 (k36'.a (k7'.a (k36'.a (k9'.a ((((cp' True).a ((vw' [AV.slice 4 0 m 1 (Cp.lo m)]).a (f' (OW (ce' (rowV encB r) 10) (ce' (AV.rens (nmW 4) (rowV encB r)) 10))))).a ((f' (Wk (b' false) g')).a ((fe' true).a (((ee' (s' nmL)).a (((cp' True).a (f' (VW [i' 2] [i' 2]))).a t')).a ((((p' (nmL ++ ByteArray.mk (Array.mk [46]) ++ nmT = nm1 \/ nmL ++ ByteArray.mk (Array.mk [46]) ++ nmT = nmL \/ nmL ++ ByteArray.mk (Array.mk [46]) ++ nmT = nm2)).a (f' (VW [s' (nmL ++ ByteArray.mk (Array.mk [46]) ++ nmT)] [s' (nmL ++ ByteArray.mk (Array.mk [46]) ++ nmT)]))).a ((f' (Wk (b' false) g')).a ((ee' (i' 1099511627776)).a ((ee' (i' p)).a ((wb' (decide (o' 1099511627776 < o' p)) g').a ((ee' (i' 1099511627776)).a ((ee' (i' p)).a ((wb' (decide (↑n > IntKind.i64.wrap (o' 1099511627776 - o' p))) g').a ((fe' true).a ((f' (findKey Tryz.prog (envW [(60,cWo m n r w),(56,cK2 gI2 [i' 1] [i' 2] (s' nmO) (s' nmT)),(29,cGm),(30,cClB n w),(74,cDf)] (hRnw u n) [(47,1,A4' 47 1,lRy u p n S0 w)] W F) 9 (s' (nmL ++ ByteArray.mk (Array.mk [46]) ++ nmT)) [(s' nm1,pt' 1002 0,0)] 0 = AP.ret none)).a ((f' (Wk (b' true) j')).a ((fe' true).a (((p' (findKey Tryz.prog (envW [(60,cWo m n r w),(56,cK2 gI2 [i' 1] [i' 2] (s' nmO) (s' nmT)),(29,cGm),(30,cClB n w),(74,cDf)] (hRnw u n) [(47,1,A4' 47 1,lRy u p n S0 w)] W F) 9 (s' (nmL ++ ByteArray.mk (Array.mk [46]) ++ nmT)) [(s' nm1,pt' 1002 0,0)] 0 = AP.ret none)).a (f' (CN' (s' (nmL ++ ByteArray.mk (Array.mk [46]) ++ nmT)) [(s' nm1,pt' 1002 0,0)]))).a ((fe' true).a ((fe' true).a (((cp' True).a ((vw' [AV.slice 1100 0 n 1 (Cp.lo n)]).a (f' (OW (ce' (AV.rens (sgN (nmW 4) [1000] 1100) (rowV encB w)) 10) (ce' (AV.rens (fun k => match k with | 0 => sgN (nmW 4) (newL [(0,rB r),(1000,rB w)]) 1100 1000 | k => k) (rowV encB w)) 10))))).a ((tt'.a (tt'.a (tt'.a (tt'.a (ee' true))))).a ((fe' true).a ((fe' true).a (((p' (n.ble n = true)).a ((p' ((List.take (n * 1) (List.drop 0 (AV.rens (sgN (fun k => match k with | 0 => sgN (nmW 4) (newL [(0,rB r),(1000,rB w)]) 1100 1000 | k => k) [1000] 1102) (rowV encB w)))).length.beq (n * 1) = true)).a ((p' ((List.take (n * 1) (List.drop 0 (AV.rens (sgN (fun k => match k with | 0 => sgN (nmW 4) (newL [(0,rB r),(1000,rB w)]) 1100 1000 | k => k) [1000] 1102) (rowV encB w)))).all AV.one = true)).a ((p' (Nat.blt 0 n = true)).a ((p' ((n * 1).ble 140737488355328 = true)).a (f' (n.ble 9223372036854775807 = true))))))).a ((fe' true).a ((ee' (i' p)).a ((f' (Wk (z' (IntKind.i64.wrap (o' p + ↑n))) (i' u))).a ((fe' true).a t')))))))))))))))))))))))).a t'))))).a (k7'.a (k10'.a (((fe' true).a ((p' ((fDs,1,A4' fDs 1,lRy u p n S0 w).snd.snd.fst = (fDs,1,A4' fDs 1,lRy u p n S0 w).snd.snd.fst)).a ((cp' True).a ((p' (VW (pt' 0 0::ru4 (pt' 0 0::pt' 0 0::pt' 0 1::AV.slice 1104 0 1 3 (Cp.lo 1)::i' 1::i' 0::ru16 (ru4 (u'::u'::[])))) (pt' 0 0::ra4 (a'::a'::a'::AV.slice 1104 0 1 3 (Cp.lo 1)::i' 1::i' 0::ra16 (ra4 (a'::a'::[])))))).a ((ow' (ce' [AV.map 1001,AV.slice 1104 0 1 3 (Cp.lo 1),i' 1099511627776,i' u] 142)).a ((p' (OW (AO.map [(s' nm1,pt' 1002 0,0),(s' (nmL ++ ByteArray.mk (Array.mk [46]) ++ nmT),pt' 1101 0,1)] 2) (AO.map [(s' nm1,pt' 1002 0,0),(s' nm2,pt' 1101 0,1)] 2))).a ((ow' (ce' [AV.slice 1003 0 p 1 (Cp.lo p),AV.slice 1004 0 p 1 (Cp.lo p)] 148)).a ((p' (OW (ce' (rowV encB S0) 10) (ce' (AV.rens (nmF [(1001,1001),(1002,1002),(1003,1003),(1004,1004),(1005,1104),(1006,1102),(1007,1101),(1008,1105)]) (rowV encB S0)) 10))).a ((p' (OW (ce' (rowV encB S0) 10) (ce' (AV.rens (nmF [(1001,1001),(1002,1002),(1003,1003),(1004,1004),(1005,1104),(1006,1102),(1007,1101),(1008,1105)]) (rowV encB S0)) 10))).a ((p' (OW (ce' [s' (nmL ++ ByteArray.mk (Array.mk [46]) ++ nmT),i' 0,AV.slice 1102 0 n 1 (Cp.lo n)] 182) (ce' [s' nm2,i' 0,AV.slice 1102 0 n 1 (Cp.lo n)] 182))).a ((p' (OW (ce' (AV.rens (sgN (fun k => match k with | 0 => sgN (nmW 4) (newL [(0,rB r),(1000,rB w)]) 1100 1000 | k => k) [1000] 1102) (rowV encB w)) 10) (ce' (AV.rens (nmF [(1001,1001),(1002,1002),(1003,1003),(1004,1004),(1005,1104),(1006,1102),(1007,1101),(1008,1105)]) (rowV encB w)) 10))).a ((ow' (ce' [AV.slice 1105 0 n 1 (Cp.lo n),e'] 148)).a ((p' (OW (ce' (List.take (n * 1) (List.drop 0 (AV.rens (sgN (fun k => match k with | 0 => sgN (nmW 4) (newL [(0,rB r),(1000,rB w)]) 1100 1000 | k => k) [1000] 1102) (rowV encB w)))) 10) (ce' (AV.rens (nmF [(1001,1001),(1002,1002),(1003,1003),(1004,1004),(1005,1104),(1006,1102),(1007,1101),(1008,1105)]) (rowV encB w)) 10))).a ((fe' true).a t')))))))))))))).a (k10'.a (k36'.a (k102'.a (((fe' true).a ((f' (findKey Tryz.prog (envW [(60,cWo m n r w),(56,cK2 gI2 [i' 1] [i' 2] (s' nmO) (s' nmT)),(29,cGm),(30,cClB n w),(74,cDf)] (hRnw u n) [(47,1,A4' 47 1,lRy u p n S0 w)] W F) 9 (s' (nmL ++ ByteArray.mk (Array.mk [46]) ++ nmO)) [(s' nm1,pt' 1107 0,0),(s' nm2,pt' 1112 0,1)] 0 = AP.ret (some (0,pt' 1107 0)))).a ((f' (Wk (b' false) g')).a ((ee' (i' u)).a ((fe' true).a ((f' (Wk (z' (IntKind.i64.wrap (o' u - ↑p))) (i' n))).a ((fe' true).a ((fe' true).a ((f' (findKey Tryz.prog (envW [(60,cWo m n r w),(56,cK2 gI2 [i' 1] [i' 2] (s' nmO) (s' nmT)),(29,cGm),(30,cClB n w),(74,cDf)] (hRnw u n) [(47,1,A4' 47 1,lRy u p n S0 w)] W F) 9 (s' (nmL ++ ByteArray.mk (Array.mk [46]) ++ nmO)) [(s' nm1,pt' 1107 0,0),(s' nm2,pt' 1112 0,1)] 0 = AP.ret (some (0,pt' 1107 0)))).a (((fe' true).a (((cp' True).a (f' (VW [e',AV.func (Fn.func 75) [] [pt' 1115 0]] [e',a']))).a ((fe' true).a t'))).a t')))))))))).a (k36'.a (k9'.a (h17' k1'))))))))))))))) := χ
end
theorem NX' {f : FuncId} {A : List AV} {S : List Bs} {H0 H' : LH} {v : AV} (hd : (([0, 1001, 1002, 1003, 1004, 1005, 1006] : List Nat).all fun i => (getO H0 i).isNone) = true) (hl : AD' 1100 H0 = true)
  (hA : AV.cls (fun i => Nat.blt i 1000 || (getO (uD5 (o' (cat S).length) (cat S).length (cat S).length (cat S) (cat S) ++ H0) i).isSome) A) (ho : ∀ x ∈ H0, x.2.cl (fun i => Nat.blt i 1000 || (getO (uD5 (o' (cat S).length) (cat S).length (cat S).length (cat S) (cat S) ++ H0) i).isSome))
  (h : Tri Θ W f A (uD5 (o' (cat S).length) (cat S).length (cat S).length (cat S) (cat S) ++ H0) v H') : Tri Θ W f A ((0, dO S []) :: H0) v H' := by
 refine PF' hd hl fun xs hx => ?_
 obtain rfl : xs = [] := List.map_eq_nil_iff.1 hx; have hd' := hd; simp only [List.all_cons, List.all_nil, Bool.and_true, Bool.and_eq_true, Option.isNone_iff_eq_none] at hd'; obtain ⟨n0, n1, n2, n3, n4, n5, n6⟩ := hd'; have hl' : (H0.all fun x => Nat.blt x.1 1100) = true := hl; refine Tri.pre (EM' ?_ ?_ (Yb) (fun i o h => ?_) hA ?_) h
 ·simp only [AD', dkL, uD, List.cons_append, List.nil_append, List.all_cons, hl']; rfl
 ·simp only [AD', uD5, List.cons_append, List.nil_append, List.all_cons, hl']; rfl
 ·rw [dkL, List.append_nil]; simp only [uD5, List.cons_append, List.nil_append, getO] at h; simp only [uD, xP, oP, List.cons_append, List.nil_append, getO]
  by_cases e5 : i = 1005
  ·subst e5; simp [n5] at h
  by_cases e6 : i = 1006
  ·subst e6; simp [n6] at h
  rw [if_neg e5, if_neg e6]; exact h
 ·intro x hx
  rcases List.mem_append.1 hx with hx | hx
  ·have hall : ∀ x ∈ uD5 (o' (cat S).length) (cat S).length (cat S).length (cat S) (cat S), x.2.cl (fun i => Nat.blt i 1000 || (getO (uD5 (o' (cat S).length) (cat S).length (cat S).length (cat S) (cat S) ++ H0) i).isSome) := A0' ⟨rfl, Ye, Ye, Ye, Ye⟩ (A0' ⟨Ye, rfl, Ye⟩ (A0' ⟨rfl, rfl, Ye⟩ (A0' (AB' _ _) (A0' (AB' _ _) A2'))))
   exact hall x hx
  ·exact ho x hx
theorem WS' (u p n : Nat) (S0 w : Bs) (hC : ∀ F, C1OK Θ F fCl (cClB n w)) : LTri Θ default (A4' fDs 1) (tms 0 33 (aRy 0)) (oRy0 u p n S0 w) (.exit 0) (tms 0 33 [(0, .ptr 0 0)]) (oRy1 u p n S0 w) := by
 refine AT' (W := default) (g := fDs) (b := A4' fDs 1) (σ := Bool) 33 (fun x => match x with | false => aRy 0 | true => aRy 1) (fun x => match x with | false => oRy0 u p n S0 w | true => oRy1 u p n S0 w) (.exit 0) [(0, .ptr 0 0)] (oRy1 u p n S0 w) (fun x => match x with | false => 1 | true => 0) kRy [0, 8, 9, 10] (by intro h; cases h) (fun x => by cases x <;> rfl) rfl ?_ false; intro x
 cases x with
 | false =>
  refine ⟨[(fCl, cClB n w)], AC' [ht' fDs 1 0, (fDs, 5, 0, hv (iv 1))], [], fun F hF => BA' (hC F), fun _ _ => noL, fun F => ?_⟩
  refine Yj (YJ' u p n S0 w F) ⟨⟨?_, rfl, .inl ⟨rfl, true, Nat.lt_succ_self 0, [(1001, 1001), (1002, 1002), (1003, 1003), (1004, 1004), (1005, 1005), (1006, 1006), (1007, 1007), (1008, 1008), (1009, 1101)], by kernel_rfl, by kernel_rfl, ⟨Ya, Ya, Ya, Ya, Ye⟩, ⟨_, rfl, Yc⟩, ⟨_, rfl, Yc⟩, ⟨_, rfl, Yc⟩, ⟨_, rfl, by first | exact A5' (A1' _ _) rfl | exact A5' rfl rfl⟩, ⟨_, rfl, by first | exact A5' (A1' _ _) rfl | exact A5' rfl rfl⟩, ⟨_, rfl, Yc⟩, ⟨_, rfl, by first | exact A5' (A1' _ _) rfl | exact A5' rfl rfl⟩, ⟨_, rfl, Yc⟩, ⟨_, rfl, by first | exact A5' (A1' _ _) rfl | exact A5' rfl rfl⟩, ⟨_, rfl, by first | exact A5' (A1' _ _) rfl | exact A5' rfl rfl⟩, Ye⟩⟩⟩
  simp only [ch', true_and, and_true]; and_intros; all_goals first | (with_reducible exact Ye) | (with_reducible exact rfl) | (with_reducible exact Ya) | (with_reducible exact Yb) | exact A3' rfl | exact Ya | exact Kw19'
 | true =>
  refine ⟨[], AC' [hf' fDs 1 0], [], fun _ _ => noC, fun _ _ => noL, fun F => ?_⟩
  refine Yj (YI' u p n S0 w F) ⟨⟨?_, rfl, .inr ⟨rfl, [(1001, 1001), (1002, 1002), (1003, 1003), (1004, 1004), (1005, 1005), (1006, 1006), (1007, 1007), (1008, 1008), (1009, 1009)], by kernel_rfl, by kernel_rfl, ⟨Ya, Ye⟩, ⟨_, rfl, Yc⟩, ⟨_, rfl, Yc⟩, ⟨_, rfl, Yc⟩, ⟨_, rfl, by first | exact A5' (A1' _ _) rfl | exact A5' rfl rfl⟩, ⟨_, rfl, by first | exact A5' (A1' _ _) rfl | exact A5' rfl rfl⟩, ⟨_, rfl, Yc⟩, ⟨_, rfl, by first | exact A5' (A1' _ _) rfl | exact A5' rfl rfl⟩, ⟨_, rfl, Yc⟩, ⟨_, rfl, by first | exact A5' (A1' _ _) rfl | exact A5' rfl rfl⟩, ⟨_, rfl, by first | exact A5' (A1' _ _) rfl | exact A5' rfl rfl⟩, Ye⟩⟩⟩
  simp only [ch', and_true]; exact A3' rfl
theorem gRy_ro : ∀ args, RO (gRy args) := fun args => by
 unfold gRy; split
 ·refine RO.read _ _ fun o => ?_
  split
  ·refine RO.read _ _ fun o => ?_
   split
   ·refine RO.read _ _ fun o => ?_
    split
    ·refine RO.read _ _ fun o => ?_
     split
     ·refine RO.read _ _ fun o => ?_
      split <;> first | exact RO.ret _ | exact RO.fail _
     ·exact RO.fail _
    ·exact RO.fail _
   ·exact RO.fail _
  ·exact RO.fail _
 ·exact RO.fail _
theorem VB' (u p n : Nat) (S0 w : Bs) (hC : ∀ F, C1OK Θ F fCl (cClB n w)) (F : HP) : L1OK Θ F (A4' fDs 1) (lRy u p n S0 w) :=
 B7' (W := default) B8' gRy_ro (fun _ _ => WS' u p n S0 w hC) fun _ => by
  simp only [RT.pick]
  exact AY' rfl rfl (A0' rfl (A0' rfl (A0' Ye (A0' Ye A2'))))
   (A0' ⟨rfl, rfl, Ye, Ye, Ye⟩ (A0' ⟨Ye, rfl, Ye, rfl, Ye⟩ (A0' ⟨rfl, rfl, Ye⟩ (A0' (AB' _ _) (A0' (AB' _ _) (A0' ⟨Ye, Ye, rfl, Ye⟩ (A0' (AB' _ _) (A0' ⟨rfl, Ye, Ye⟩ (A0' (AB' _ _) A2')))))))))
   (A0' rfl A2')
   (A0' ⟨rfl, rfl, Ye, Ye, Ye⟩ (A0' ⟨Ye, rfl, Ye, rfl, Ye⟩ (A0' ⟨rfl, rfl, Ye⟩ (A0' (AB' _ _) (A0' (AB' _ _) (A0' ⟨Ye, Ye, rfl, Ye⟩ (A0' (AB' _ _) (A0' ⟨rfl, rfl, Ye⟩ (A0' (AB' _ _) (A0' (AB' _ _) A2'))))))))))
def lg2 (n : Nat) : AO := .cells [.ptr 0 0, sv nmL, iv 2, iv (o' n)] tLg
theorem X2' (W : World) (u p n : Nat) (sz : Int) (S0 w : Bs) (hu : u = p + n) (hn : n = w.length) (h0 : 0 < n) (hz : p + n <= 1099511627776) (hWp : ∀ F, AF' W F -> C1OK Θ F fWp (cWm n w)) :
  Tri Θ W fRwl [.ptr 2 0, .mt] (uD5 (o' p) p p S0 S0 ++ [(2, lgC sz)]) (iv 0) (uT5 (o' n) n n w w ++ [(2, lg2 n)]) := by
 have hC := fun F => BP' (l := w) (by show _ <= 140737488351232; omega) ω F
 rw [<- hn] at hC
 have hL := fun F => VB' u p n S0 w hC F
 have f1 : decide (o' 1099511627776 < o' p) = false := decide_eq_false (by simp only [Z0]; omega)
 have f2 : decide ((n : Int) > IntKind.i64.wrap (o' 1099511627776 - o' p)) = false := by
  rw [IntWalk.i64_in _ (by simp only [Z0]; omega)]; exact decide_eq_false (by simp only [Z0]; omega)
 have f3 : IntKind.i64.wrap (o' p + (n : Int)) = o' u := by
  rw [IntWalk.i64_in _ (by simp only [Z0]; omega)]; simp only [Z0]; omega
 have f4 : IntKind.i64.wrap (o' u - (p : Int)) = o' n := by
  rw [IntWalk.i64_in _ (by simp only [Z0]; omega)]; simp only [Z0]; omega
 refine AJ' (con := conRm n w) (hints := hRnw u n) (lc := [(fDs, 1, A4' fDs 1, lRy u p n S0 w)]) kRnw χ (fun F hF => A7' (hWp F hF) (A7' (N2' S7' (GB' _) (HV' _) (fun _ => ⟨Ye, Ye⟩) (fun _ => ⟨Ye, Ye⟩) (fun _ => trivial) (fun _ => trivial) F) (A7' (EA' F) (A7' (hC F) (BA' (GF' F)))))) (fun F _ => CK' (hL F)) fun F => ?_
 refine Yj (YS' W u p n sz S0 w F) ⟨⟨?_, (AR' (vs' := [iv 0]) (H' := [(0, dkC nilS (o' n)), (1001, mp2 1 2), (1002, fiC n n), (1003, rB w), (1004, rB w), (2, lg2 n)]) [(1001, 1106), (1002, 1112), (1003, 1113), (1004, 1114)] χ χ (Yb) ⟨⟨_, rfl, Yc⟩, ⟨_, rfl, Yc⟩, ⟨_, rfl, Yc⟩, ⟨_, rfl, by first | exact A5' (A1' _ _) rfl | exact A5' rfl rfl⟩, ⟨_, rfl, by first | exact A5' (A1' _ _) rfl | exact A5' rfl rfl⟩, ⟨_, rfl, Yc⟩, Ye⟩).fits χ⟩⟩
 clear hC hL hWp; have f5 : n.ble n = true := AP' (Yd)
 have g1 : ∀ σ, List.take (n * 1) (List.drop 0 (AV.rens σ (rowV encB w))) = rowV encB w := fun σ => by
  rw [A1', List.drop_zero, List.take_of_length_le (by rw [BJ', Nat.mul_one, hn]; exact Yd)]
 have g2 : (rowV encB w).length.beq (n * 1) = true := by rw [BJ', <- hn, Nat.mul_one]; exact Nat.beq_refl _
 have g3 : Nat.blt 0 n = true := by rw [bl']; exact h0
 have g4 : (n * 1).ble 140737488355328 = true := AP' ω; have g5 : n.ble 9223372036854775807 = true := AP' ω; have g6 := KB' w; exact Cw14'
theorem X1' (W : World) (u p m n : Nat) (sz : Int) (S0 r w : Bs) (hu : u = p + n) (hn : n = w.length) (h0 : 0 < n) (hz : p + n <= 1099511627776) (hWp : ∀ F, AF' W F -> C1OK Θ F fWp (cWo m n r w)) :
  Tri Θ W fRwl [.ptr 2 0, sB 4 m] (uD5 (o' p) p p S0 S0 ++ [(2, lgC sz), (4, rB r)]) (iv 0) (uT5 (o' n) n n w w ++ [(2, lg2 n), (4, rB r)]) := by
 have hC := fun F => BP' (l := w) (by show _ <= 140737488351232; omega) ω F
 rw [<- hn] at hC
 have hL := fun F => VB' u p n S0 w hC F
 have f1 : decide (o' 1099511627776 < o' p) = false := decide_eq_false (by simp only [Z0]; omega)
 have f2 : decide ((n : Int) > IntKind.i64.wrap (o' 1099511627776 - o' p)) = false := by
  rw [IntWalk.i64_in _ (by simp only [Z0]; omega)]; exact decide_eq_false (by simp only [Z0]; omega)
 have f3 : IntKind.i64.wrap (o' p + (n : Int)) = o' u := by
  rw [IntWalk.i64_in _ (by simp only [Z0]; omega)]; simp only [Z0]; omega
 have f4 : IntKind.i64.wrap (o' u - (p : Int)) = o' n := by
  rw [IntWalk.i64_in _ (by simp only [Z0]; omega)]; simp only [Z0]; omega
 refine AJ' (con := conRo m n r w) (hints := hRnw u n) (lc := [(fDs, 1, A4' fDs 1, lRy u p n S0 w)]) kRnw χ (fun F hF => A7' (hWp F hF) (A7' (N2' S7' (GB' _) (HV' _) (fun _ => ⟨Ye, Ye⟩) (fun _ => ⟨Ye, Ye⟩) (fun _ => trivial) (fun _ => trivial) F) (A7' (EA' F) (A7' (hC F) (BA' (GF' F)))))) (fun F _ => CK' (hL F)) fun F => ?_
 refine Yj (YR' W u p m n sz S0 r w F) ⟨⟨?_, (AR' (vs' := [iv 0]) (H' := [(0, dkC nilS (o' n)), (1001, mp2 1 2), (1002, fiC n n), (1003, rB w), (1004, rB w), (2, lg2 n), (4, rB r)]) [(1001, 1106), (1002, 1112), (1003, 1113), (1004, 1114)] χ χ (Yb) ⟨⟨_, rfl, Yc⟩, ⟨_, rfl, Yc⟩, ⟨_, rfl, Yc⟩, ⟨_, rfl, by first | exact A5' (A1' _ _) rfl | exact A5' rfl rfl⟩, ⟨_, rfl, by first | exact A5' (A1' _ _) rfl | exact A5' rfl rfl⟩, ⟨_, rfl, Yc⟩, ⟨_, rfl, by first | exact A5' (A1' _ _) rfl | exact A5' rfl rfl⟩, Ye⟩).fits χ⟩⟩
 clear hC hL hWp; have f5 : n.ble n = true := AP' (Yd)
 have g1 : ∀ σ, List.take (n * 1) (List.drop 0 (AV.rens σ (rowV encB w))) = rowV encB w := fun σ => by
  rw [A1', List.drop_zero, List.take_of_length_le (by rw [BJ', Nat.mul_one, hn]; exact Yd)]
 have g2 : (rowV encB w).length.beq (n * 1) = true := by rw [BJ', <- hn, Nat.mul_one]; exact Nat.beq_refl _
 have g3 : Nat.blt 0 n = true := by rw [bl']; exact h0
 have g4 : (n * 1).ble 140737488355328 = true := AP' ω; have g5 : n.ble 9223372036854775807 = true := AP' ω; have g6 := KB' w; exact Cw14'
abbrev fNms : Nat := 26
def kNmG : List Nat := [0, 1001, 1100, 1101, 1102, 1103]
theorem a4' (F : HP) : wRun [(fSo, cSo)] AV' [] default fNms [.ptr 0 0] dGL kNmG F = VT.leaf (AV.slice 1101 0 1 1 (Cp.lo 1)) [some (ce' [AV.map 1001,a',a',a'] 142),some (AO.map [(s' nm2,a',0)] 1),some (ce' [AV.map 1001] 136),some (ce' [s' y2'] 18),none,none] 1102 (k10'.a k1') := χ
theorem bC' : Tri Θ default fNms [.ptr 0 0] [(0, dG)] (.slice 1000 0 1 1 (.lo 1)) [(1000, .cells [sv nm2] tSt)] := by
 refine Tri.open (R := fun _ : Unit => True) (L := fun _ => dGL) (H0 := []) (fun _ => rfl) (fun _ => A0' ⟨rfl, Ye, Ye, Ye, Ye⟩ (A0' ⟨Ye, Ye, Ye⟩ A2')) (fun _ => ⟨_, rfl⟩) fun _ _ => ?_
 rw [List.append_nil]
 refine AJ' (con := [(fSo, cSo)]) (hints := AV') (lc := []) kNmG rfl (fun F _ => BA' (HH' F)) (fun F _ => noL) fun F => ?_
 refine Yj (a4' F) ⟨⟨?_, (AR' (vs' := [.slice 1000 0 1 1 (.lo 1)]) (H' := [(1000, .cells [sv nm2] tSt)]) [(1000, 1101)] rfl rfl (Yb) ⟨⟨_, rfl, Yc⟩, Ye⟩).fits rfl⟩⟩; simp [ch']
def dRL (w : Bs) : LH := uT5 (o' w.length) w.length w.length w w
def dR (w : Bs) : AO := .own (.turns [2]) (exHP (fun _ : Unit => True) (fun _ => dRL w))
theorem dRL_cl (w : Bs) : ∀ x ∈ dRL w, x.2.cl (kH (dRL w)) := A0' ⟨rfl, Ye, Ye, Ye, Ye⟩ (A0' ⟨Ye, rfl, Ye⟩ (A0' ⟨rfl, rfl, Ye⟩ (A0' (AB' _ _) (A0' (AB' _ _) A2'))))
theorem WZ' (W : World) (hN : LN W) (S : List Bs) (sz : Int) (hz : (cat S).length + 8 <= 1099511627776) : Tri Θ W fRwl [.ptr 2 0, .mt] [(0, dO S []), (2, lgC sz)] (iv 0) [(0, dR (AH' [])), (2, lg2 (AH' []).length)] := by
 refine NX' (H0 := [(2, lgC sz)]) (by rfl) χ ⟨rfl, Ye, Ye⟩ (A0' ⟨rfl, Ye, Ye, Ye, Ye⟩ A2') ?_; refine Tri.post (X2' W ((cat S).length + (AH' []).length) (cat S).length (AH' []).length sz (cat S) (AH' []) rfl rfl (by rw [B2']; omega) (by rw [B2']; exact hz) (fun F hF => VP' hN F hF)) ?_
 exact Goes.shut (R := fun _ : Unit => True) (L := fun _ => dRL (AH' [])) (H0 := [(2, lg2 (AH' []).length)]) () trivial χ ⟨_, _, rfl, by kernel_rfl⟩ ⟨Ye, Ye⟩ (A0' ⟨rfl, Ye, Ye, Ye, Ye⟩ A2')
theorem WY' (W : World) (hN : LN W) (S : List Bs) (r : Bs) (sz : Int) (hr : r.length <= most) (hp : 0 < r.length) (hz : (cat S).length + (8 + r.length) <= 1099511627776) : Tri Θ W fRwl [.ptr 2 0, sB 4 r.length] [(0, dO S []), (2, lgC sz), (4, rB r)] (iv 0) [(0, dR (AH' r)), (2, lg2 (AH' r).length), (4, rB r)] := by
 refine NX' (H0 := [(2, lgC sz), (4, rB r)]) (by rfl) χ ⟨rfl, rfl, Ye⟩ (A0' ⟨rfl, Ye, Ye, Ye, Ye⟩ (A0' (AB' _ _) A2')) ?_; refine Tri.post (X1' W ((cat S).length + (AH' r).length) (cat S).length r.length (AH' r).length sz (cat S) r (AH' r) rfl rfl (by rw [B2']; omega) (by rw [B2']; exact hz) (fun F hF => VO' hN r hr hp F hF)) ?_
 exact Goes.shut (R := fun _ : Unit => True) (L := fun _ => dRL (AH' r)) (H0 := [(2, lg2 (AH' r).length), (4, rB r)]) () trivial χ ⟨_, _, rfl, by kernel_rfl⟩ ⟨Ye, Ye⟩ (A0' ⟨rfl, Ye, Ye, Ye, Ye⟩ (A0' (AB' _ _) A2'))
theorem d2' (S : List Bs) (ok : Option Addr) (nk ck : Nat) (tr : Int) (h0 : 0 < (cat S).length) (hz : (cat S).length <= 1099511627776) : Tri Θ default fCr [.ptr 0 0, EN' ok nk ck tr] [(0, dO S [])] (.slice 1030 0 1 2 (.lo 1)) ((0, dO S []) :: outH (cat S).length (cat S)) := by
 refine NX' (H0 := []) (by rfl) χ ⟨rfl, ⟨Ye, Ye, Ye⟩, Ye⟩ A2' ?_; rw [List.append_nil]; have := d7' ok (o' (cat S).length) tr (cat S).length nk ck (cat S) (cat S) (by show _ <= 140737488351232; omega) h0; refine Tri.post (Tri.pre ?_ this) (O6' (H0 := outH (cat S).length (cat S)) (by rfl) χ ⟨rfl, Ye⟩ (A0' ⟨Ye, rfl, Ye⟩ (A0' (AB' _ _) A2'))); refine CL' (k := 1005) (P := fun _ => True) (fun C => trivial) χ χ rfl δ (by rfl) (fun n hn => ?_); simp only [uDO, uD5, getO, mSt, mCk, if_neg hn]
theorem d3' (w : Bs) (ok : Option Addr) (nk ck : Nat) (tr : Int) (h0 : 0 < w.length) (hz : w.length <= 1099511627776) : Tri Θ default fCr [.ptr 0 0, EN' ok nk ck tr] [(0, dR w)] (.slice 1030 0 1 2 (.lo 1)) (outT w.length w) := by
 refine Tri.open (R := fun _ : Unit => True) (L := fun _ => dRL w) (H0 := []) (fun _ => rfl) (fun _ => dRL_cl w) (fun _ => ⟨_, rfl⟩) fun _ _ => ?_
 rw [List.append_nil]; have := d1' ok (o' w.length) tr w.length nk ck w w (by show _ <= 140737488351232; omega) h0; refine Tri.post (Tri.pre ?_ this) ?_
 ·refine CL' (k := 1005) (P := fun _ => True) (fun C => trivial) χ χ rfl δ (by rfl) (fun n hn => ?_); simp only [uTO, dRL, uT5, getO, if_neg hn]
 ·refine EM' χ χ (Yb) (fun i o h => ?_) ⟨rfl, Ye⟩ (A0' ⟨Ye, rfl, Ye⟩ (A0' (AB' _ _) A2')); simp only [outT, getO] at h; simp only [uT5, outT, List.cons_append, List.nil_append, getO]
  by_cases e1 : i = 1030
  ·subst e1; simpa using h
  ·by_cases e2 : i = 1031
   ·subst e2; simpa using h
   ·rw [if_neg e1, if_neg e2] at h; cases h
def cB (b : Nat) : Nat := if b = 1 then 2197175160 else 0
def CQ' (s : Nat) : Nat := if s % 2 = 1 then (s / 2) ^^^ 2197175160 else s / 2
def bitN : Nat -> Nat -> Nat
 | 0, s => s
 | k + 1, s => CQ' (bitN k s)
theorem SP' (s : Nat) : CQ' s = s / 2 ^^^ cB (s % 2) := by
 unfold CQ' cB; split
 ·rfl
 ·rw [Nat.xor_zero]
theorem TD' (a b : Nat) : (a ^^^ b) / 2 = a / 2 ^^^ b / 2 := by
 have := Nat.xor_div_two_pow (a := a) (b := b) (n := 1); simpa using this
theorem VZ' (a b : Nat) : (a ^^^ b) % 2 = a % 2 ^^^ b % 2 := by
 have := Nat.xor_mod_two_pow (a := a) (b := b) (n := 1); simpa using this
theorem OH' (a d : Nat) (hd : d % 2 = 0) : CQ' (a ^^^ d) = a / 2 ^^^ (d / 2 ^^^ cB (a % 2)) := by
 rw [SP', TD', VZ', hd, Nat.xor_zero, Nat.xor_assoc]
theorem bit4 (s : Nat) : CQ' (CQ' (CQ' (CQ' s))) = half s := by
 have h0 : CQ' s = s / 2 ^^^ cB (s % 2) := SP' s; rw [h0, half]
 have e4 : s >>> 4 = s / 2 / 2 / 2 / 2 := by rw [Nat.shiftRight_eq_div_pow]; omega
 have e15 : s &&& 15 = s % 2 + 2 * (s / 2 % 2) + 4 * (s / 2 / 2 % 2) + 8 * (s / 2 / 2 / 2 % 2) := by
  have := Nat.and_two_pow_sub_one_eq_mod s 4; rw [show (15 : Nat) = 2 ^ 4 - 1 from rfl, this]; omega
 rw [e4, e15]
 rcases Nat.mod_two_eq_zero_or_one s with b0 | b0 <;> rcases Nat.mod_two_eq_zero_or_one (s / 2) with b1 | b1 <;> rcases Nat.mod_two_eq_zero_or_one (s / 2 / 2) with b2 | b2 <;> rcases Nat.mod_two_eq_zero_or_one (s / 2 / 2 / 2) with b3 | b3 <;>
  (rw [b0, OH' _ _ δ, b1, OH' _ _ δ, b2, OH' _ _ δ, b3]; exact congrArg (fun z => s / 2 / 2 / 2 / 2 ^^^ z) δ)
theorem bit8 (s : Nat) : bitN 8 s = half (half s) := by
 show CQ' (CQ' (CQ' (CQ' (CQ' (CQ' (CQ' (CQ' s))))))) = _; rw [bit4, bit4]
theorem UN' {s : Nat} (h : s < 4294967296) : CQ' s < 4294967296 := by
 unfold CQ'; split
 ·exact Nat.xor_lt_two_pow (n := 32) ω δ
 ·omega
theorem SQ' {s : Nat} (h : s < 4294967296) : ∀ k, bitN k s < 4294967296
 | 0 => h
 | k + 1 => UN' (SQ' h k)
theorem TS' {s : Nat} (h : s < 4294967296) : 4294967295 - s = s ^^^ ones := by
 have h1 : (2 ^ 32 - 1 - s : Nat) = s ^^^ (2 ^ 32 - 1) := by
  refine Nat.eq_of_testBit_eq fun i => ?_
  rw [Nat.testBit_xor, Nat.testBit_two_pow_sub_one]
  rw [show (2 ^ 32 - 1 - s : Nat) = 2 ^ 32 - (s + 1) by omega, Nat.testBit_two_pow_sub_succ ω]
  by_cases hi : i < 32
  ·simp [hi]
  ·have : s.testBit i = false := Nat.testBit_lt_two_pow (Nat.lt_of_lt_of_le h (Nat.pow_le_pow_right (n := 2) δ (by omega : 32 <= i))); simp [hi, this]
 exact h1
theorem OI' : ∀ {b : Bs}, b.length = 4 -> be4 (val b) = b
 | [w, x, y, z], _ => by
  have hw := w.toNat_lt; have hx := x.toNat_lt; have hy := y.toNat_lt; have hz := z.toNat_lt; simp only [val, be4, List.foldl_cons, List.foldl_nil, Nat.zero_mul, Nat.zero_add, List.cons.injEq, and_true]
  refine ⟨?_, ?_, ?_, ?_⟩ <;> (apply UInt8.toNat_inj.1; rw [UInt8.toNat_ofNat']; omega)
theorem UZ' {b d : Bs} (h : unwB b = some d) : AH' d = b.take (8 + d.length) := by
 unfold unwB at h; split at h
 ·cases h
 rename_i h1; split at h
 ·cases h
 split at h
 ·cases h
 rename_i h3; split at h
 ·rename_i h4; obtain rfl := Option.some.inj h
  have hl : ((b.drop 8).take (val (b.take 4))).length = val (b.take 4) := by rw [List.length_take, ld']; omega
  have e1 : (b.take 4).length = 4 := by rw [List.length_take]; omega
  have e2 : ((b.drop 4).take 4).length = 4 := by rw [List.length_take, ld']; omega
  have hs : sumB ((b.drop 8).take (val (b.take 4))) = val ((b.drop 4).take 4) := by rw [sumB, hl, OI' e1]; exact h4
  rw [AH', hs, hl, OI' e1, OI' e2, as']
  have a1 : b.take (8 + val (b.take 4)) = b.take 4 ++ (b.drop 4).take (4 + val (b.take 4)) := by
   rw [show 8 + val (b.take 4) = 4 + (4 + val (b.take 4)) by omega, List.take_add]
  have a2 : (b.drop 4).take (4 + val (b.take 4)) = (b.drop 4).take 4 ++ (b.drop 8).take (val (b.take 4)) := by
   rw [List.take_add, List.drop_drop]
  rw [a1, a2]
 ·cases h
theorem WB' {b : Bs} (h8 : 8 <= b.length) (hm : val (b.take 4) <= most) (hl : 8 + val (b.take 4) <= b.length) :
  (AH' ((b.drop 8).take (val (b.take 4))) = b.take (8 + val (b.take 4)) -> unwB b = some ((b.drop 8).take (val (b.take 4)))) /\ (AH' ((b.drop 8).take (val (b.take 4))) ≠ b.take (8 + val (b.take 4)) -> unwB b = none) := by
 have hd : ((b.drop 8).take (val (b.take 4))).length = val (b.take 4) := by rw [List.length_take, ld']; omega
 refine ⟨fun h => ?_, fun h => ?_⟩
 ·have := KR' (r := (b.drop 8).take (val (b.take 4))) (by rw [hd]; exact hm) (b.drop (8 + val (b.take 4)))
  rwa [h, List.take_append_drop] at this
 ·cases hu : unwB b with
  | none => rfl
  | some d =>
   have h1 := UZ' hu; have h2 := hu; unfold unwB at h2; rw [if_neg ω, if_neg ω, if_neg ω] at h2; split at h2
   ·obtain rfl := Option.some.inj h2; rw [hd] at h1; exact absurd h1 h
   ·cases h2
noncomputable section
abbrev fQc : Nat := 28
abbrev fQv : Nat := 62
abbrev fQn : Nat := 82
abbrev fQs : Nat := 83
def uL (n : Nat) : AV := .v (.int .u64 (o' n))
def slX (i : Nat) : AV := .slice 1010 0 i 1 (.lo i)
def gX (t : Nat) (tmps : List AV) : AP (List (Nat × Nat)) := match tmps.getD t .any with
 | .slice j _ _ _ _ => .ret [(1010, j)]
 | _ => .fail "row"
def aQc (oa : Option Addr) (n c i : Nat) : List (Nat × AV) := [(0, slV oa n c), (3, slX i), (4, iv (o' i))]
def hQc (i : Nat) (x : UInt8) : BD' := AC' [ht' fQc 3 3, (fQc, 5, 4, hv (byv x)), (fQc, 4, 1, hv (iv (o' (i + 1))))]
def kX : List Nat := [1010, 1100, 1101, 1102, 1103]
abbrev k103' (q0 : Nat) (q1 : Bs) : Cnd := (tt'.a (tt'.a (tt'.a (tt'.a ((p' ((0 + q0 * 1).ble (rowV encB q1).length = true)).a ((p' (((q0 + 1) * 1).ble 140737488355328 = true)).a ((p' ((q0 + 1).ble 9223372036854775807 = true)).a (f' ((List.take (q0 * 1) (List.drop 0 (rowV encB q1))).length.beq (q0 * 1) = true)))))))))
abbrev S4' (q0 q1 : Nat) (q2 : World) (q3 : Addr) (q4 : UInt8) (z : Cnd) : Cnd := ((wb' (decide (o' q0 < ↑q1)) j').a ((f' (q0.blt q1 = true)).a (((p' ((q2.cell? (q3.add (q0 * 1))).isSome = true)).a ((p' (v' ((q2.cell? (q3.add (q0 * 1))).getD (Value.tuple (Array.mk []))) = v' (vi' u8' (v' ((q2.cell? (q3.add (q0 * 1))).getD (Value.tuple (Array.mk [])))).intOf))).a (f' (Wk (v' (vi' u8' (v' ((q2.cell? (q3.add (q0 * 1))).getD (Value.tuple (Array.mk [])))).intOf)) (v' (vi' u8' ↑q4.toNat)))))).a z)))
theorem ZI' (W : World) (a : Addr) (n c i : Nat) (x : UInt8) (k : Bs) (F : HP) : AS' [] (hQc i x) [] W fQc (A4' fQc 3) (tms 0 20 (aQc (some a) n c i)) [(1010, rB k)] kX [0, 3, 4] F = VT.leaf (AX.normal,[v' (sl' (some a) n c),AV.slice 1101 0 (i + 1) 1 (Cp.lo (i + 1)),i' (i + 1)],20) [none,some (ce' [v' (vi' u8' ↑x.toNat)] 10),some (ce' (List.take (i * 1) (List.drop 0 (rowV encB k)) ++ [v' (vi' u8' ↑x.toNat)]) 10),none,none] 1102 (S4' i n W a x ((k103' i k).a ((k2' i).a k1'))) := χ
abbrev k105' (q0 : Nat) : Cnd := (wb' (decide (o' q0 < ↑q0)) g')
theorem ZH' (W : World) (oa : Option Addr) (n c : Nat) (k : Bs) (F : HP) : AS' [] (AC' [hf' fQc 3 3]) [] W fQc (A4' fQc 3) (tms 0 20 (aQc oa n c n)) [(1010, rB k)] kX [0, 3, 4] F = VT.leaf (AX.exit 0,[v' (sl' oa n c),AV.slice 1010 0 n 1 (Cp.lo n),i' n],20) [some (ce' (rowV encB k) 10),none,none,none,none] 1100 ((k105' n).a k1') := χ
def lQc (oa : Option Addr) (n c : Nat) (l : Bs) : List AV -> AP (AX × List AV) := mkL (gX 3) (fun _ => True) nmF (fun _ => tms 0 20 (aQc oa n c 0)) (fun _ => [(1010, rB [])]) (fun _ => .leaf (.exit 0) (tms 0 20 [(3, slX n)]) [(1010, rB l)])
abbrev k106' : Cnd := (p' (OW (ce' (rep [v' (vi' u8' (o' 0))] 0) 10) (ce' [] 10)))
theorem ZG' (W : World) (oa : Option Addr) (n c : Nat) (l : Bs) (F : HP) : wRun [] AV' [(fQc, 3, A4' fQc 3, lQc oa n c l)] W fQc [slV oa n c] [] [1100, 1101, 1102, 1103] F = VT.leaf (AV.slice 1101 0 n 1 (Cp.lo n)) [none,some (ce' (AV.rens (sgN (nmF [(1010,1100)]) [1010] 1101) (rowV encB l)) 10),none,none] 1102 ((p' ((fQc,3,A4' fQc 3,lQc oa n c l).snd.snd.fst = (fQc,3,A4' fQc 3,lQc oa n c l).snd.snd.fst)).a (k4'.a ((p' (VW (v' (sl' oa n c)::u'::e'::AV.slice 1100 0 0 1 (Cp.ex 0)::i' 0::AV.slice 1100 0 0 1 (Cp.ex 0)::ru8 (ru4 (u'::u'::[]))) (v' (sl' oa n c)::a'::a'::AV.slice 1100 0 0 1 (Cp.lo 0)::i' 0::ra8 (ra4 (a'::a'::a'::[]))))).a (k106'.a k1')))) := χ
def aQv (oa : Option Addr) (n c i u : Nat) : List (Nat × AV) := [(0, slV oa n c), (3, uL u), (4, iv (o' i))]
def hQv (i v : Nat) (x : UInt8) : BD' := AC' [ht' fQv 3 3, (fQv, 5, 5, hv (byv x)), (fQv, 5, 7, hv (uL v)), (fQv, 4, 1, hv (iv (o' (i + 1))))]
theorem YZ' (W : World) (a : Addr) (n c i u v : Nat) (x : UInt8) (F : HP) : AS' [] (hQv i v x) [] W fQv (A4' fQv 3) (tms 0 21 (aQv (some a) n c i u)) [] [] [0, 3, 4] F = VT.leaf (AX.normal,[v' (sl' (some a) n c),v' (vi' IntKind.u64 (o' v)),i' (i + 1)],21) [] 1100 (S4' i n W a x ((f' (Wk (v' (vi' IntKind.u64 (IntKind.u64.wrap (IntKind.u64.wrap (o' u * o' 256) + IntKind.u64.wrap ↑x.toNat)))) (v' (vi' IntKind.u64 (o' v))))).a ((k2' i).a k1'))) := χ
theorem YY' (W : World) (oa : Option Addr) (n c u : Nat) (F : HP) : AS' [] (AC' [hf' fQv 3 3]) [] W fQv (A4' fQv 3) (tms 0 21 (aQv oa n c n u)) [] [] [0, 3, 4] F = VT.leaf (AX.exit 0,[v' (sl' oa n c),v' (vi' IntKind.u64 (o' u)),i' n],21) [] 1100 ((k105' n).a k1') := χ
def lQv (oa : Option Addr) (n c u : Nat) : List AV -> AP (AX × List AV) := mkL (fun _ => .ret ()) (fun _ => True) (fun _ k => k) (fun _ => tms 0 21 (aQv oa n c 0 0)) (fun _ => []) (fun _ => .leaf (.exit 0) (tms 0 21 [(3, uL u)]) [])
theorem YX' (W : World) (oa : Option Addr) (n c u : Nat) (F : HP) : wRun [] (AC' [(fQv, 6, 1, hv (iv (o' u)))]) [(fQv, 3, A4' fQv 3, lQv oa n c u)] W fQv [slV oa n c] [] [] F = VT.leaf (i' u) [] 1100 ((p' ((fQv,3,A4' fQv 3,lQv oa n c u).snd.snd.fst = (fQv,3,A4' fQv 3,lQv oa n c u).snd.snd.fst)).a (k4'.a ((p' (VW (v' (sl' oa n c)::u'::i' 0::v' (vi' IntKind.u64 (o' 0))::i' 0::ru16 ([])) (v' (sl' oa n c)::a'::a'::v' (vi' IntKind.u64 (o' 0))::i' 0::ra16 ([])))).a ((f' (Wk (z' (IntKind.i64.wrap (o' u))) (i' u))).a k1')))) := χ
def aQm (z i p j : Nat) : List (Nat × AV) := [(0, iv 4), (5, slX i), (6, uL z), (7, iv (o' i)), (8, uL p), (9, iv (o' j))]
theorem ZA' (z i p q j : Nat) (k : Bs) (F : HP) : AS' [] (AC' [ht' fQn 8 2, (fQn, 10, 1, hv (uL q)), (fQn, 9, 1, hv (iv (o' (j + 1))))]) [] default fQn (A4' fQn 8) (tms 0 36 (aQm z i p j)) [(1010, rB k)] kX [0, 5, 6, 7, 8, 9] F = VT.leaf (AX.normal,[i' 4,AV.slice 1010 0 i 1 (Cp.lo i),v' (vi' IntKind.u64 (o' z)),i' i,v' (vi' IntKind.u64 (o' q)),i' (j + 1)],36) [some (ce' (rowV encB k) 10),none,none,none,none] 1100 ((k19' j).a ((f' (Wk (v' (vi' IntKind.u64 (IntKind.u64.wrap (o' p * o' 256)))) (v' (vi' IntKind.u64 (o' q))))).a ((k2' j).a k1'))) := χ
theorem Z9' (z i p : Nat) (k : Bs) (F : HP) : AS' [] (AC' [hf' fQn 8 2]) [] default fQn (A4' fQn 8) (tms 0 36 (aQm z i p 4)) [(1010, rB k)] kX [0, 5, 6, 7, 8, 9] F = VT.leaf (AX.exit 2,[i' 4,AV.slice 1010 0 i 1 (Cp.lo i),v' (vi' IntKind.u64 (o' z)),i' i,v' (vi' IntKind.u64 (o' p)),i' 4],36) [some (ce' (rowV encB k) 10),none,none,none,none] 1100 (k7'.a k1') := χ
def lQm (z i p : Nat) (k : Bs) : List AV -> AP (AX × List AV) := mkL (gX 5) (fun _ => True) nmF (fun _ => tms 0 36 (aQm z i 1 (i + 1))) (fun _ => [(1010, rB k)]) (fun _ => .leaf (.exit 2) (tms 0 36 [(0, iv 4), (5, slX i), (6, uL z), (7, iv (o' i)), (8, uL p)]) [(1010, rB k)])
def aQn (z i : Nat) : List (Nat × AV) := [(0, iv 4), (5, slX i), (6, uL z), (7, iv (o' i))]
theorem Z8' (z i p : Nat) (x : UInt8) (k : Bs) (F : HP) : AS' [] (AC' [ht' fQn 4 2, (fQn, 7, 1, hv (iv (o' (i + 1)))), (fQn, 11, 5, hv (byv x)), (fQn, 5, 1, hv (iv (o' (i + 1))))]) [(fQn, 8, A4' fQn 8, lQm z i (p + 1) k)] default fQn (A4' fQn 4) (tms 0 36 (aQn z i)) [(1010, rB k)] kX [0, 5, 6, 7] F = VT.leaf (AX.normal,[i' 4,AV.slice 1102 0 (i + 1) 1 (Cp.lo (i + 1)),v' (vi' IntKind.u64 (o' z)),i' (i + 1)],36) [none,none,some (ce' [v' (vi' u8' ↑x.toNat)] 10),some (ce' (List.take (i * 1) (List.drop 0 (AV.rens (sgN (nmF [(1010,1010)]) [1010] 1100) (rowV encB k))) ++ [v' (vi' u8' ↑x.toNat)]) 10),none] 1103 ((k19' i).a ((k2' i).a ((p' ((fQn,8,A4' fQn 8,lQm z i (p + 1) k).snd.snd.fst = (fQn,8,A4' fQn 8,lQm z i (p + 1) k).snd.snd.fst)).a (k4'.a ((p' (VW (i' 4::ra4 (AV.slice 1010 0 i 1 (Cp.lo i)::v' (vi' IntKind.u64 (o' z))::i' i::v' (vi' IntKind.u64 (o' 1))::i' (i + 1)::a'::a'::a'::i' i::i' 4::j'::a'::a'::i' i::i' (i + 1)::ra16 ([]))) (i' 4::ra4 (AV.slice 1010 0 i 1 (Cp.lo i)::v' (vi' IntKind.u64 (o' z))::i' i::v' (vi' IntKind.u64 (o' 1))::i' (i + 1)::ra16 (ra8 (a'::a'::[])))))).a ((p' (OW (ce' (rowV encB k) 10) (ce' (AV.rens (nmF [(1010,1010)]) (rowV encB k)) 10))).a ((f' (Wk (v' (vi' u8' (IntKind.u8.wrap ((IntKind.u64.wrap ((o' z).tdiv (o' (p + 1)))).tmod (o' 256))))) (v' (vi' u8' ↑x.toNat)))).a ((tt'.a (tt'.a (tt'.a (tt'.a ((p' ((0 + i * 1).ble (AV.rens (sgN (nmF [(1010,1010)]) [1010] 1100) (rowV encB k)).length = true)).a ((p' (((i + 1) * 1).ble 140737488355328 = true)).a ((p' ((i + 1).ble 9223372036854775807 = true)).a (f' ((List.take (i * 1) (List.drop 0 (AV.rens (sgN (nmF [(1010,1010)]) [1010] 1100) (rowV encB k)))).length.beq (i * 1) = true))))))))).a ((k2' i).a k1'))))))))) := χ
theorem Z7' (z : Nat) (k : Bs) (F : HP) : AS' [] (AC' [hf' fQn 4 2]) [] default fQn (A4' fQn 4) (tms 0 36 (aQn z 4)) [(1010, rB k)] kX [0, 5, 6, 7] F = VT.leaf (AX.exit 0,[i' 4,AV.slice 1010 0 4 1 (Cp.lo 4),v' (vi' IntKind.u64 (o' z)),i' 4],36) [some (ce' (rowV encB k) 10),none,none,none,none] 1100 (k7'.a k1') := χ
def lQn (z : Nat) (k : Bs) : List AV -> AP (AX × List AV) := mkL (gX 5) (fun _ => True) nmF (fun _ => tms 0 36 (aQn z 0)) (fun _ => [(1010, rB [])]) (fun _ => .leaf (.exit 0) (tms 0 36 [(5, slX 4)]) [(1010, rB k)])
theorem Z6' (z : Nat) (k : Bs) (F : HP) : wRun [] (AC' [(fQn, 2, 1, hv (uL z))]) [(fQn, 4, A4' fQn 4, lQn z k)] default fQn [iv 4, iv (o' z)] [] [1100, 1101, 1102, 1103] F = VT.leaf (AV.slice 1101 0 4 1 (Cp.lo 4)) [none,some (ce' (AV.rens (sgN (nmF [(1010,1100)]) [1010] 1101) (rowV encB k)) 10),none,none] 1102 ((f' (Wk (v' (vi' IntKind.u64 (IntKind.u64.wrap (o' z)))) (v' (vi' IntKind.u64 (o' z))))).a ((p' ((fQn,4,A4' fQn 4,lQn z k).snd.snd.fst = (fQn,4,A4' fQn 4,lQn z k).snd.snd.fst)).a (k4'.a ((p' (VW (i' 4::i' z::u'::u'::e'::AV.slice 1100 0 0 1 (Cp.ex 0)::v' (vi' IntKind.u64 (o' z))::i' 0::u'::u'::AV.slice 1100 0 0 1 (Cp.ex 0)::i' z::v' (vi' IntKind.u64 (o' z))::ru16 (ru4 (u'::u'::u'::[]))) (i' 4::ra4 (AV.slice 1100 0 0 1 (Cp.lo 0)::v' (vi' IntKind.u64 (o' z))::i' 0::ra16 (ra8 (ra4 ([]))))))).a (k106'.a k1'))))) := χ
def aQt (oa : Option Addr) (n c i s k : Nat) : List (Nat × AV) := [(0, slV oa n c), (3, uN s), (4, iv (o' i)), (5, iv (o' k))]
def hQt (s k b : Nat) (t : Bool) (s' : Nat) : BD' := AC' [ht' fQs 7 1, (fQs, 9, 1, hv (uN b)), (fQs, 10, 1, hv (uN (s / 2))), (fQs, 11, 1, hv (.lit t)), (fQs, 12, 1, hv (uN s')), (fQs, 8, 1, hv (iv (o' (k + 1))))]
abbrev k107' (q0 : Nat) : Cnd := (f' (Wk (v' (vi' IntKind.u32 (IntKind.u32.wrap ((o' q0).tdiv (o' 2))))) (v' (vi' IntKind.u32 (o' (q0 / 2))))))
abbrev k108' (q0 : Nat) : Cnd := (wb' (decide (o' q0 < o' 8)) j')
theorem Z2' (oa : Option Addr) (n c i s k s' : Nat) (F : HP) : AS' [] (hQt s k 1 true s') [] default fQs (A4' fQs 7) (tms 0 34 (aQt oa n c i s k)) [] [] [0, 3, 4, 5] F = VT.leaf (AX.normal,[v' (sl' oa n c),v' (vi' IntKind.u32 (o' s')),i' i,i' (k + 1)],34) [] 1100 ((k108' k).a ((f' (Wk (v' (vi' IntKind.u32 ((o' s).tmod (o' 2)))) (v' (vi' IntKind.u32 (o' 1))))).a ((k107' s).a (k5'.a ((f' (Wk (v' (vi' IntKind.u32 (IntKind.u32.wrap ↑(BitVec.ofInt 32 (o' (s / 2)) ^^^ BitVec.ofInt 32 (o' 2197175160)).toNat))) (v' (vi' IntKind.u32 (o' s'))))).a ((k2' k).a k1')))))) := χ
theorem Z1' (oa : Option Addr) (n c i s k : Nat) (F : HP) : AS' [] (hQt s k 0 false 0) [] default fQs (A4' fQs 7) (tms 0 34 (aQt oa n c i s k)) [] [] [0, 3, 4, 5] F = VT.leaf (AX.normal,[v' (sl' oa n c),v' (vi' IntKind.u32 (o' (s / 2))),i' i,i' (k + 1)],34) [] 1100 ((k108' k).a ((f' (Wk (v' (vi' IntKind.u32 ((o' s).tmod (o' 2)))) (v' (vi' IntKind.u32 (o' 0))))).a ((k107' s).a (k7'.a ((k2' k).a k1'))))) := χ
theorem Z0' (oa : Option Addr) (n c i s : Nat) (F : HP) : AS' [] (AC' [hf' fQs 7 1]) [] default fQs (A4' fQs 7) (tms 0 34 (aQt oa n c i s 8)) [] [] [0, 3, 4, 5] F = VT.leaf (AX.exit 2,[v' (sl' oa n c),v' (vi' IntKind.u32 (o' s)),i' i,i' 8],34) [] 1100 (k7'.a k1') := χ
def lQt (oa : Option Addr) (n c i s s' : Nat) : List AV -> AP (AX × List AV) := mkL (fun _ => .ret ()) (fun _ => True) (fun _ k => k) (fun _ => tms 0 34 (aQt oa n c i s 0)) (fun _ => []) (fun _ => .leaf (.exit 2) (tms 0 34 [(0, slV oa n c), (3, uN s'), (4, iv (o' i))]) [])
def aQs (oa : Option Addr) (n c i s : Nat) : List (Nat × AV) := [(0, slV oa n c), (3, uN s), (4, iv (o' i))]
theorem Z5' (W : World) (a : Addr) (n c i s r s' : Nat) (x : UInt8) (F : HP) : AS' [] (AC' [ht' fQs 3 3, (fQs, 5, 4, hv (byv x)), (fQs, 5, 6, hv (uN r)), (fQs, 4, 1, hv (iv (o' (i + 1))))]) [(fQs, 7, A4' fQs 7, lQt (some a) n c i r s')] W fQs (A4' fQs 3) (tms 0 34 (aQs (some a) n c i s)) [] [] [0, 3, 4] F = VT.leaf (AX.normal,[v' (sl' (some a) n c),v' (vi' IntKind.u32 (o' s')),i' (i + 1)],34) [] 1100 (S4' i n W a x ((f' (Wk (v' (vi' IntKind.u32 (IntKind.u32.wrap ↑(BitVec.ofInt 32 (o' s) ^^^ BitVec.ofInt 32 (IntKind.u32.wrap ↑x.toNat)).toNat))) (v' (vi' IntKind.u32 (o' r))))).a ((p' ((fQs,7,A4' fQs 7,lQt (some a) n c i r s').snd.snd.fst = (fQs,7,A4' fQs 7,lQt (some a) n c i r s').snd.snd.fst)).a (k4'.a ((p' (VW [v' (sl' (some a) n c),a',a',v' (vi' IntKind.u32 (o' r)),i' i,i' 0,a',i' i,v' (sl' (some a) n c),z' ↑n,j',a',a',v' (vi' IntKind.u32 (o' s)),v' (sl' (some a) n c),i' i,v' (Value.pointer (some (a.add (i * 1)))),v' (vi' u8' ↑x.toNat),v' (vi' IntKind.u32 (IntKind.u32.wrap ↑x.toNat)),v' (vi' IntKind.u32 (o' r)),a',a',a',a',a',a',a',a',a',a',a',a',a',a'] (v' (sl' (some a) n c)::a'::a'::v' (vi' IntKind.u32 (o' r))::i' i::i' 0::ra16 (ra8 (ra4 ([])))))).a ((k2' i).a k1')))))) := χ
theorem Z4' (W : World) (oa : Option Addr) (n c s : Nat) (F : HP) : AS' [] (AC' [hf' fQs 3 3]) [] W fQs (A4' fQs 3) (tms 0 34 (aQs oa n c n s)) [] [] [0, 3, 4] F = VT.leaf (AX.exit 0,[v' (sl' oa n c),v' (vi' IntKind.u32 (o' s)),i' n],34) [] 1100 ((k105' n).a k1') := χ
def lQs (oa : Option Addr) (n c s : Nat) : List AV -> AP (AX × List AV) := mkL (fun _ => .ret ()) (fun _ => True) (fun _ k => k) (fun _ => tms 0 34 (aQs oa n c 0 4294967295)) (fun _ => []) (fun _ => .leaf (.exit 0) (tms 0 34 [(3, uN s)]) [])
theorem Z3' (W : World) (oa : Option Addr) (n c s r : Nat) (F : HP) : wRun [] (AC' [(fQs, 13, 1, hv (uN r))]) [(fQs, 3, A4' fQs 3, lQs oa n c s)] W fQs [slV oa n c] [] [] F = VT.leaf (v' (vi' IntKind.u32 (o' r))) [] 1100 ((p' ((fQs,3,A4' fQs 3,lQs oa n c s).snd.snd.fst = (fQs,3,A4' fQs 3,lQs oa n c s).snd.snd.fst)).a (k4'.a ((p' (VW (v' (sl' oa n c)::u'::v' (vi' IntKind.u32 (o' 0))::v' (vi' IntKind.u32 (o' 4294967295))::i' 0::ru16 (ru8 (ru4 (u'::[])))) (v' (sl' oa n c)::a'::a'::v' (vi' IntKind.u32 (o' 4294967295))::i' 0::ra16 (ra8 (ra4 (a'::[])))))).a ((f' (Wk (v' (vi' IntKind.u32 (IntKind.u32.wrap (o' 4294967295 - o' s)))) (v' (vi' IntKind.u32 (o' r))))).a k1')))) := χ
end
theorem UC' (t : Nat) (tmps : List AV) : RO (gX t tmps) := by unfold gX; split <;> first | exact RO.ret _ | exact RO.fail _
theorem QY' {a b : Int} (h : a = b) : Wk (.v (.int .u64 a)) (.v (.int .u64 b)) := by subst h; exact Ya
theorem PA' {k : Bs} {i : Nat} (hk : k.length = i) (hi : i < 140737488351232) : (0 + i * 1).ble (rowV encB k).length = true /\ ((i + 1) * 1).ble 140737488355328 = true /\ (i + 1).ble 9223372036854775807 = true /\ List.take (i * 1) (List.drop 0 (rowV encB k)) = rowV encB k /\ (rowV encB k).length.beq (i * 1) = true := by
 have hl : (rowV encB k).length = k.length := BJ' k; refine ⟨AP' (by rw [hl]; omega), AP' ω, AP' ω, ?_, ?_⟩
 ·rw [List.drop_zero, List.take_of_length_le (by rw [hl]; omega)]
 ·rw [hl, hk, Nat.mul_one]; exact Nat.beq_refl _
theorem KY' (k : Bs) (x : UInt8) : rowV encB (k ++ [x]) = rowV encB k ++ [v' (.int .u8 x.toNat)] := by simp [rowV, vmap, encB]
theorem V4' (W : World) (oa : Option Addr) (c : Nat) (l : Bs) (h : BAt W.cell? oa l) : Tri Θ W fQc [slV oa l.length c] [] (sB 1000 l.length) [(1000, rB l)] := by
 have hlen : l.length <= 140737488351232 := h.1
 have hloop : LTri Θ W (A4' fQc 3) (tms 0 20 (aQc oa l.length c 0)) [(1010, rB [])] (.exit 0) (tms 0 20 [(3, slX l.length)]) [(1010, rB l)] := by
  refine AT' (W := W) (g := fQc) (b := A4' fQc 3) (σ := {j : Nat // j <= l.length}) 20 (fun j => aQc oa l.length c j.1) (fun j => [(1010, rB (l.take j.1))]) (.exit 0) [(3, slX l.length)] [(1010, rB l)] (fun j => l.length - j.1) kX [0, 3, 4] (by intro h; cases h) (fun _ => rfl) rfl ?_ ⟨0, Nat.zero_le _⟩; rintro ⟨j, hj⟩; simp only
  by_cases h1 : j < l.length
  ·obtain ⟨x, hx⟩ := BU' h1; obtain ⟨a, rfl, q1⟩ := h.2 j x hx; have hw := BR' j ω; have e1 : decide (o' j < o' l.length) = true := ltTN h1; obtain ⟨r1, r2, r3, r4, r5⟩ := PA' (k := l.take j) (i := j) (by rw [List.length_take]; omega) ω
   refine ⟨[], hQc j x, [], fun F hF => noC, fun _ _ => noL, fun F => ?_⟩
   refine Yj (ZI' W a l.length c j x (l.take j) F) ⟨⟨?_, rfl, .inl ⟨rfl, ⟨j + 1, h1⟩, BL' h1, [(1010, 1101)], by kernel_rfl, by kernel_rfl, ⟨Ya, Ya, Ya, Ye⟩, ⟨_, rfl, by rw [r4, <- KY', C6' hx]; first | exact A5' (A1' _ _) rfl | exact A5' rfl rfl⟩, Ye⟩⟩⟩
   simp only [ch', e1, h1, q1, r1, r2, r3, r4, r5, Option.getD_some, Option.isSome_some, bl', true_and, and_true]; and_intros; all_goals first | (with_reducible exact AL' hw) | (with_reducible exact A3' e1) | exact Kw23'
  ·have hje : j = l.length := ω
   subst hje; rw [List.take_length]
   refine ⟨[], AC' [hf' fQc 3 3], [], fun _ _ => noC, fun _ _ => noL, fun F => ?_⟩
   refine Yj (ZH' W oa l.length c l F) ⟨⟨?_, rfl, .inr ⟨rfl, [(1010, 1010)], by kernel_rfl, by kernel_rfl, ⟨Ya, Ye⟩, ⟨_, rfl, by first | exact A5' (A1' _ _) rfl | exact A5' rfl rfl⟩, Ye⟩⟩⟩
   simp only [ch', and_true]; exact A3' (ltFN (Yd))
 have hL : ∀ F, AF' W F -> L1OK Θ F (A4' fQc 3) (lQc oa l.length c l) := fun F hF =>
  B7' hF (UC' _) (fun _ _ => hloop) fun _ => by
   simp only [RT.pick]; exact AY' rfl rfl (A0' Ye (A0' rfl (A0' Ye A2'))) (A0' (AB' _ _) A2') (A0' rfl A2') (A0' (AB' _ _) A2')
 refine AJ' (con := []) (hints := AV') (lc := [(fQc, 3, A4' fQc 3, lQc oa l.length c l)]) [1100, 1101, 1102, 1103] rfl (fun _ _ => noC) (fun F hF => CK' (hL F hF)) fun F => ?_
 refine Yj (ZG' W oa l.length c l F) ⟨⟨?_, (AR' (vs' := [sB 1000 l.length]) (H' := [(1000, rB l)]) [(1000, 1101)] rfl rfl (Yb) ⟨⟨_, rfl, by first | exact A5' (A1' _ _) rfl | exact A5' rfl rfl⟩, Ye⟩).fits rfl⟩⟩
 simp only [ch', true_and, and_true]; and_intros; all_goals first | (with_reducible exact Ye) | (with_reducible exact rfl) | exact Kw24'
theorem qv_tri (W : World) (oa : Option Addr) (c : Nat) (l : Bs) (h : BAt W.cell? oa l) (h4 : l.length <= 4) : Tri Θ W fQv [slV oa l.length c] [] (iv (o' (val l))) [] := by
 have hb : ∀ j, val (l.take j) < 4294967296 := fun j => by
  have h1 := UX' (l.take j) rfl; have h2 : 256 ^ (l.take j).length <= 256 ^ 4 := Nat.pow_le_pow_right δ (by rw [List.length_take]; omega); exact Nat.lt_of_lt_of_le h1 h2
 have hloop : LTri Θ W (A4' fQv 3) (tms 0 21 (aQv oa l.length c 0 0)) [] (.exit 0) (tms 0 21 [(3, uL (val l))]) [] := by
  refine AT' (W := W) (g := fQv) (b := A4' fQv 3) (σ := {j : Nat // j <= l.length}) 21 (fun j => aQv oa l.length c j.1 (val (l.take j.1))) (fun j => []) (.exit 0) [(3, uL (val l))] [] (fun j => l.length - j.1) [] [0, 3, 4] (by intro h; cases h) (fun _ => rfl) rfl ?_ ⟨0, Nat.zero_le _⟩; rintro ⟨j, hj⟩; simp only
  by_cases h1 : j < l.length
  ·obtain ⟨x, hx⟩ := BU' h1; obtain ⟨a, rfl, q1⟩ := h.2 j x hx; have hw := BR' j ω; have e1 : decide (o' j < o' l.length) = true := ltTN h1; have hx8 := x.toNat_lt; have hbj := hb j
   have hs : IntKind.u64.wrap (IntKind.u64.wrap (o' (val (l.take j)) * o' 256) + IntKind.u64.wrap (x.toNat : Int)) = o' (val (l.take (j + 1))) := by
    rw [C6' hx, KQ', IntWalk.u64_in (o' (val (l.take j)) * o' 256) (by simp only [Z0]; omega), IntWalk.u64_in (x.toNat : Int) ω, IntWalk.u64_in _ (by simp only [Z0]; omega)]; simp only [Z0]; omega
   refine ⟨[], hQv j (val (l.take (j + 1))) x, [], fun F hF => noC, fun _ _ => noL, fun F => ?_⟩
   refine Yj (YZ' W a l.length c j (val (l.take j)) (val (l.take (j + 1))) x F) ⟨⟨?_, rfl, .inl ⟨rfl, ⟨j + 1, h1⟩, BL' h1, [], by kernel_rfl, by kernel_rfl, ⟨Ya, Ya, Ya, Ye⟩, Ye⟩⟩⟩
   simp only [ch', e1, h1, q1, Option.getD_some, Option.isSome_some, bl', true_and, and_true]; and_intros; all_goals first | (with_reducible exact AL' hw) | (with_reducible exact QY' hs) | (with_reducible exact A3' e1) | exact Kw23'
  ·have hje : j = l.length := ω
   subst hje; rw [List.take_length]
   refine ⟨[], AC' [hf' fQv 3 3], [], fun _ _ => noC, fun _ _ => noL, fun F => ?_⟩
   refine Yj (YY' W oa l.length c (val l) F) ⟨⟨?_, rfl, .inr ⟨rfl, [], by kernel_rfl, by kernel_rfl, ⟨Ya, Ye⟩, Ye⟩⟩⟩
   simp only [ch', and_true]; exact A3' (ltFN (Yd))
 have hL : ∀ F, AF' W F -> L1OK Θ F (A4' fQv 3) (lQv oa l.length c (val l)) := fun F hF =>
  B7' hF (fun _ => RO.ret _) (fun _ _ => hloop) fun _ => by
   simp only [RT.pick]; exact AY' rfl rfl (A0' Ye (A0' Ye (A0' Ye A2'))) A2' (A0' Ye A2') A2'
 have hbl := hb l.length; rw [List.take_length] at hbl; have hi : IntKind.i64.wrap (o' (val l)) = o' (val l) := IntWalk.i64_in _ (by simp only [Z0]; omega)
 refine AJ' (con := []) (hints := AC' [(fQv, 6, 1, hv (iv (o' (val l))))]) (lc := [(fQv, 3, A4' fQv 3, lQv oa l.length c (val l))]) [] rfl (fun _ _ => noC) (fun F hF => CK' (hL F hF)) fun F => ?_
 refine Yj (YX' W oa l.length c (val l) F) ⟨⟨?_, (AR' (vs' := [iv (o' (val l))]) (H' := []) [] rfl rfl (Yb) (show CG' [] [] [] [] from trivial)).fits rfl⟩⟩
 simp only [ch', true_and, and_true]; and_intros; all_goals first | (with_reducible exact Ye) | (with_reducible exact rfl) | (with_reducible exact AL' hi) | exact Kw12'
theorem XE' {e : Nat} (h : e <= 3) : 256 ^ e <= 16777216 := Nat.pow_le_pow_right (n := 256) δ h
theorem X9' (z i : Nat) (hi : i < 4) (k : Bs) : LTri Θ default (A4' fQn 8) (tms 0 36 (aQm z i 1 (i + 1))) [(1010, rB k)] (.exit 2) (tms 0 36 [(0, iv 4), (5, slX i), (6, uL z), (7, iv (o' i)), (8, uL (256 ^ (3 - i)))]) [(1010, rB k)] := by
 have key := AT' (W := default) (g := fQn) (b := A4' fQn 8) (σ := {j : Nat // j <= 3 - i}) 36 (fun j => aQm z i (256 ^ j.1) (i + 1 + j.1)) (fun j => [(1010, rB k)]) (.exit 2) [(0, iv 4), (5, slX i), (6, uL z), (7, iv (o' i)), (8, uL (256 ^ (3 - i)))] [(1010, rB k)] (fun j => 3 - i - j.1) kX [0, 5, 6, 7, 8, 9] (by intro h; cases h) (fun _ => rfl) rfl ?_ ⟨0, Nat.zero_le _⟩
 ·exact key
 rintro ⟨j, hj⟩; simp only
 by_cases h1 : j < 3 - i
 ·have hp : 256 ^ j <= 16777216 := XE' ω; have hw := BR' (i + 1 + j) ω; have e1 : decide (o' (i + 1 + j) < o' 4) = true := ltTN ω
  have hq : IntKind.u64.wrap (o' (256 ^ j) * o' 256) = o' (256 ^ (j + 1)) := by
   rw [Nat.pow_succ]
   generalize 256 ^ j = q at hp ⊢
   rw [IntWalk.u64_in _ (by simp only [Z0]; omega)]; simp only [Z0]; omega
  refine ⟨[], AC' [ht' fQn 8 2, (fQn, 10, 1, hv (uL (256 ^ (j + 1)))), (fQn, 9, 1, hv (iv (o' (i + 1 + j + 1))))], [], fun F hF => noC, fun _ _ => noL, fun F => ?_⟩
  refine Yj (ZA' z i (256 ^ j) (256 ^ (j + 1)) (i + 1 + j) k F) ⟨⟨?_, rfl, .inl ⟨rfl, ⟨j + 1, h1⟩, BL' h1, [(1010, 1010)], by kernel_rfl, by kernel_rfl, ⟨Ya, Ya, Ya, Ya, Ya, Ya, Ye⟩, ⟨_, rfl, by first | exact A5' (A1' _ _) rfl | exact A5' rfl rfl⟩, Ye⟩⟩⟩
  simp only [ch', and_true]; exact ⟨A3' e1, QY' hq, AL' hw⟩
 ·have hje : j = 3 - i := ω
  subst hje
  have e4 : i + 1 + (3 - i) = 4 := ω
  rw [e4]
  refine ⟨[], AC' [hf' fQn 8 2], [], fun _ _ => noC, fun _ _ => noL, fun F => ?_⟩
  refine Yj (Z9' z i (256 ^ (3 - i)) k F) ⟨⟨?_, rfl, .inr ⟨rfl, [(1010, 1010)], by kernel_rfl, by kernel_rfl, ⟨Ya, Ya, Ya, Ya, Ya, Ye⟩, ⟨_, rfl, by first | exact A5' (A1' _ _) rfl | exact A5' rfl rfl⟩, Ye⟩⟩⟩
  simp only [ch', and_true]; exact A3' rfl
theorem dK' {z i : Nat} (hi : i < 4) : (be4 z)[i]? = some (UInt8.ofNat (z / 256 ^ (3 - i))) := by
 rcases i with _|_|_|_|i
 ·rfl
 ·rfl
 ·rfl
 ·show some (UInt8.ofNat z) = some (UInt8.ofNat (z / 1)); rw [Nat.div_one]
 ·omega
theorem qn_tri (z : Nat) (hz : z < 4294967296) : Tri Θ default fQn [iv 4, iv (o' z)] [] (sB 1000 4) [(1000, rB (be4 z))] := by
 have hloop : LTri Θ default (A4' fQn 4) (tms 0 36 (aQn z 0)) [(1010, rB [])] (.exit 0) (tms 0 36 [(5, slX 4)]) [(1010, rB (be4 z))] := by
  refine AT' (W := default) (g := fQn) (b := A4' fQn 4) (σ := {j : Nat // j <= 4}) 36 (fun j => aQn z j.1) (fun j => [(1010, rB ((be4 z).take j.1))]) (.exit 0) [(5, slX 4)] [(1010, rB (be4 z))] (fun j => 4 - j.1) kX [0, 5, 6, 7] (by intro h; cases h) (fun _ => rfl) rfl ?_ ⟨0, Nat.zero_le _⟩
  rintro ⟨j, hj⟩; simp only
  by_cases h1 : j < 4
  ·have hx := dK' (z := z) h1
   obtain ⟨p, hp⟩ : ∃ p, 256 ^ (3 - j) = p + 1 := ⟨256 ^ (3 - j) - 1, by have := Nat.pow_pos (n := 3 - j) (by decide : 0 < 256); omega⟩
   rw [hp] at hx; have hw := BR' j ω; have e1 : decide (o' j < o' 4) = true := ltTN h1; obtain ⟨r1, r2, r3, r4, r5⟩ := PA' (k := (be4 z).take j) (i := j) (by rw [List.length_take, DG']; omega) ω; have hq : z / (p + 1) <= z := Nat.div_le_self _ _
   have hv8 : IntKind.u8.wrap ((IntKind.u64.wrap ((o' z).tdiv (o' (p + 1)))).tmod (o' 256)) = ((UInt8.ofNat (z / (p + 1))).toNat : Int) := by
    have t1 : (o' z).tdiv (o' (p + 1)) = o' (z / (p + 1)) := rfl; rw [t1]
    generalize z / (p + 1) = q at hq ⊢
    rw [IntWalk.u64_in _ (by simp only [Z0]; omega)]; have t2 : (o' q).tmod (o' 256) = o' (q % 256) := rfl; rw [t2, IntWalk.u8_in _ (by simp only [Z0]; omega), UInt8.toNat_ofNat']; rfl
   have hL : ∀ F, L1OK Θ F (A4' fQn 8) (lQm z j (p + 1) ((be4 z).take j)) := fun F =>
    B7' (W := default) B8' (UC' _) (fun _ _ => by have := X9' z j h1 ((be4 z).take j); rw [hp] at this; exact this) fun _ => by
     simp only [RT.pick]; exact AY' rfl rfl (A0' Ye (A0' rfl (A0' Ye (A0' Ye (A0' Ye (A0' Ye A2')))))) (A0' (AB' _ _) A2') (A0' Ye (A0' rfl (A0' Ye (A0' Ye (A0' Ye A2'))))) (A0' (AB' _ _) A2')
   refine ⟨[], AC' [ht' fQn 4 2, (fQn, 7, 1, hv (iv (o' (j + 1)))), (fQn, 11, 5, hv (byv (UInt8.ofNat (z / (p + 1))))), (fQn, 5, 1, hv (iv (o' (j + 1))))], [(fQn, 8, A4' fQn 8, lQm z j (p + 1) ((be4 z).take j))], fun F hF => noC, fun F _ => CK' (hL F), fun F => ?_⟩
   refine Yj (Z8' z j p (UInt8.ofNat (z / (p + 1))) ((be4 z).take j) F) ⟨⟨?_, rfl, .inl ⟨rfl, ⟨j + 1, h1⟩, BL' h1, [(1010, 1102)], by kernel_rfl, by kernel_rfl, ⟨Ya, Ya, Ya, Ya, Ye⟩, ⟨_, rfl, by rw [A1', r4, <- KY', C6' hx]; first | exact A5' (A1' _ _) rfl | exact A5' rfl rfl⟩, Ye⟩⟩⟩
   clear hL
   simp only [ch', e1, A1', r1, r2, r3, r4, r5, true_and, and_true]; and_intros; all_goals first | (with_reducible exact AL' hw) | (with_reducible exact wk_u8 hv8) | (with_reducible exact Ye) | exact rfl | exact A3' rfl | exact A3' e1 | exact Ya | exact Yc | ((repeat (first | exact VW.nil | refine VW.cons (Wk.any _) ?_ | refine VW.cons Ya ?_)); done)
  ·have hje : j = 4 := ω
   subst hje; have e4 : (be4 z).take 4 = be4 z := rfl; rw [e4]
   refine ⟨[], AC' [hf' fQn 4 2], [], fun _ _ => noC, fun _ _ => noL, fun F => ?_⟩
   refine Yj (Z7' z (be4 z) F) ⟨⟨?_, rfl, .inr ⟨rfl, [(1010, 1010)], by kernel_rfl, by kernel_rfl, ⟨Ya, Ye⟩, ⟨_, rfl, by first | exact A5' (A1' _ _) rfl | exact A5' rfl rfl⟩, Ye⟩⟩⟩
   simp only [ch', and_true]; exact A3' rfl
 have hL : ∀ F, L1OK Θ F (A4' fQn 4) (lQn z (be4 z)) := fun F =>
  B7' (W := default) B8' (UC' _) (fun _ _ => hloop) fun _ => by
   simp only [RT.pick]; exact AY' rfl rfl (A0' Ye (A0' rfl (A0' Ye (A0' Ye A2')))) (A0' (AB' _ _) A2') (A0' rfl A2') (A0' (AB' _ _) A2')
 have hu : IntKind.u64.wrap (o' z) = o' z := IntWalk.u64_in _ (by simp only [Z0]; omega)
 refine AJ' (con := []) (hints := AC' [(fQn, 2, 1, hv (uL z))]) (lc := [(fQn, 4, A4' fQn 4, lQn z (be4 z))]) [1100, 1101, 1102, 1103] rfl (fun _ _ => noC) (fun F _ => CK' (hL F)) fun F => ?_
 refine Yj (Z6' z (be4 z) F) ⟨⟨?_, (AR' (vs' := [sB 1000 4]) (H' := [(1000, rB (be4 z))]) [(1000, 1101)] rfl rfl (Yb) ⟨⟨_, rfl, by first | exact A5' (A1' _ _) rfl | exact A5' rfl rfl⟩, Ye⟩).fits rfl⟩⟩
 clear hloop hL
 simp only [ch', true_and, and_true]; and_intros; all_goals first | (with_reducible exact Ye) | (with_reducible exact rfl) | (with_reducible exact QY' hu) | exact Kw24'
theorem X8' (oa : Option Addr) (n c i s : Nat) (hs : s < 4294967296) : LTri Θ default (A4' fQs 7) (tms 0 34 (aQt oa n c i s 0)) [] (.exit 2) (tms 0 34 [(0, slV oa n c), (3, uN (bitN 8 s)), (4, iv (o' i))]) [] := by
 refine AT' (W := default) (g := fQs) (b := A4' fQs 7) (σ := {j : Nat // j <= 8}) 34 (fun j => aQt oa n c i (bitN j.1 s) j.1) (fun j => []) (.exit 2) [(0, slV oa n c), (3, uN (bitN 8 s)), (4, iv (o' i))] [] (fun j => 8 - j.1) [] [0, 3, 4, 5] (by intro h; cases h) (fun _ => rfl) rfl ?_ ⟨0, Nat.zero_le _⟩; rintro ⟨j, hj⟩; simp only; have ht := SQ' hs j
 by_cases h1 : j < 8
 ·have hw := BR' j ω; have e1 : decide (o' j < o' 8) = true := ltTN h1; have enx : bitN (j + 1) s = CQ' (bitN j s) := rfl; obtain ⟨t, ht'⟩ : ∃ t, bitN j s = t := ⟨_, rfl⟩; rw [ht'] at ht enx ⊢
  have hd : IntKind.u32.wrap ((o' t).tdiv (o' 2)) = o' (t / 2) := by
   have t1 : (o' t).tdiv (o' 2) = o' (t / 2) := rfl; rw [t1]; exact IntWalk.u32_in _ (by simp only [Z0]; omega)
  by_cases hb : t % 2 = 1
  ·have hm : (o' t).tmod (o' 2) = o' 1 := congrArg o' hb
   have hx : IntKind.u32.wrap ((BitVec.ofInt 32 (o' (t / 2)) ^^^ BitVec.ofInt 32 (o' 2197175160)).toNat : Int) = o' (CQ' t) := by
    rw [x_eq ω δ, CQ', if_pos hb]
   refine ⟨[], hQt t j 1 true (CQ' t), [], fun F hF => noC, fun _ _ => noL, fun F => ?_⟩
   refine Yj (Z2' oa n c i t j (CQ' t) F) ⟨⟨?_, rfl, .inl ⟨rfl, ⟨j + 1, h1⟩, BL' h1, [], by kernel_rfl, by kernel_rfl, ⟨Ya, by rw [enx]; exact Ya, Ya, Ya, Ye⟩, Ye⟩⟩⟩
   simp only [ch', and_true]; exact ⟨A3' e1, E8' hm, E8' hd, A3' rfl, E8' hx, AL' hw⟩
  ·have hb0 : t % 2 = 0 := ω
   have hm : (o' t).tmod (o' 2) = o' 0 := congrArg o' hb0
   have hbs : CQ' t = t / 2 := by rw [CQ', if_neg hb]
   rw [hbs] at enx
   refine ⟨[], hQt t j 0 false 0, [], fun F hF => noC, fun _ _ => noL, fun F => ?_⟩
   refine Yj (Z1' oa n c i t j F) ⟨⟨?_, rfl, .inl ⟨rfl, ⟨j + 1, h1⟩, BL' h1, [], by kernel_rfl, by kernel_rfl, ⟨Ya, by rw [enx]; exact Ya, Ya, Ya, Ye⟩, Ye⟩⟩⟩
   simp only [ch', and_true]; exact ⟨A3' e1, E8' hm, E8' hd, A3' rfl, AL' hw⟩
 ·have hje : j = 8 := ω
  subst hje
  refine ⟨[], AC' [hf' fQs 7 1], [], fun _ _ => noC, fun _ _ => noL, fun F => ?_⟩
  refine Yj (Z0' oa n c i (bitN 8 s) F) ⟨⟨?_, rfl, .inr ⟨rfl, [], by kernel_rfl, by kernel_rfl, ⟨Ya, Ya, Ya, Ye⟩, Ye⟩⟩⟩
  simp only [ch', and_true]; exact A3' rfl
theorem qs_tri (W : World) (oa : Option Addr) (c : Nat) (l : Bs) (h : BAt W.cell? oa l) : Tri Θ W fQs [slV oa l.length c] [] (uN (ovr ones l ^^^ ones)) [] := by
 have hlen : l.length <= 140737488351232 := h.1
 have h0 : ones < 4294967296 := δ
 have hloop : LTri Θ W (A4' fQs 3) (tms 0 34 (aQs oa l.length c 0 4294967295)) [] (.exit 0) (tms 0 34 [(3, uN (ovr ones l))]) [] := by
  refine AT' (W := W) (g := fQs) (b := A4' fQs 3) (σ := {j : Nat // j <= l.length}) 34 (fun j => aQs oa l.length c j.1 (ovr ones (l.take j.1))) (fun j => []) (.exit 0) [(3, uN (ovr ones l))] [] (fun j => l.length - j.1) [] [0, 3, 4] (by intro h; cases h) (fun _ => rfl) rfl ?_ ⟨0, Nat.zero_le _⟩; rintro ⟨j, hj⟩; simp only
  by_cases h1 : j < l.length
  ·obtain ⟨x, hx⟩ := BU' h1; obtain ⟨a, rfl, q1⟩ := h.2 j x hx; have hw := BR' j ω; have e1 : decide (o' j < o' l.length) = true := ltTN h1; have hsj := D3' (l.take j) h0
   have enx : ovr ones (l.take (j + 1)) = HO' (ovr ones (l.take j)) x := by rw [C6' hx, PE']
   obtain ⟨t, ht⟩ : ∃ t, ovr ones (l.take j) = t := ⟨_, rfl⟩; rw [ht] at hsj enx ⊢
   have hx8 : x.toNat < 4294967296 := by have := x.toNat_lt; omega
   have hu : t ^^^ x.toNat < 4294967296 := Nat.xor_lt_two_pow (n := 32) hsj hx8; have hc := c_eq (x := x) hsj; have e8 : HO' t x = bitN 8 (t ^^^ x.toNat) := (bit8 _).symm
   have hL : ∀ F, L1OK Θ F (A4' fQs 7) (lQt (some a) l.length c j (t ^^^ x.toNat) (HO' t x)) := fun F =>
    B7' (W := default) B8' (fun _ => RO.ret _) (fun _ _ => by rw [e8]; exact X8' (some a) l.length c j _ hu) fun _ => by
     simp only [RT.pick]; exact AY' rfl rfl (A0' Ye (A0' Ye (A0' Ye (A0' Ye A2')))) A2' (A0' Ye (A0' Ye (A0' Ye A2'))) A2'
   refine ⟨[], AC' [ht' fQs 3 3, (fQs, 5, 4, hv (byv x)), (fQs, 5, 6, hv (uN (t ^^^ x.toNat))), (fQs, 4, 1, hv (iv (o' (j + 1))))], [(fQs, 7, A4' fQs 7, lQt (some a) l.length c j (t ^^^ x.toNat) (HO' t x))], fun F hF => noC, fun F _ => CK' (hL F), fun F => ?_⟩
   refine Yj (Z5' W a l.length c j t (t ^^^ x.toNat) (HO' t x) x F) ⟨⟨?_, rfl, .inl ⟨rfl, ⟨j + 1, h1⟩, BL' h1, [], by kernel_rfl, by kernel_rfl, ⟨Ya, by rw [enx]; exact Ya, Ya, Ye⟩, Ye⟩⟩⟩
   clear hL
   simp only [ch', e1, h1, q1, Option.getD_some, Option.isSome_some, bl', true_and, and_true]; and_intros; all_goals first | (with_reducible exact AL' hw) | (with_reducible exact E8' hc) | (with_reducible exact Ye) | exact rfl | exact A3' rfl | exact A3' e1 | exact Ya | ((repeat (first | exact VW.nil | refine VW.cons (Wk.any _) ?_ | refine VW.cons Ya ?_)); done)
  ·have hje : j = l.length := ω
   subst hje; rw [List.take_length]
   refine ⟨[], AC' [hf' fQs 3 3], [], fun _ _ => noC, fun _ _ => noL, fun F => ?_⟩
   refine Yj (Z4' W oa l.length c (ovr ones l) F) ⟨⟨?_, rfl, .inr ⟨rfl, [], by kernel_rfl, by kernel_rfl, ⟨Ya, Ye⟩, Ye⟩⟩⟩
   simp only [ch', and_true]; exact A3' (ltFN (Yd))
 have hL : ∀ F, AF' W F -> L1OK Θ F (A4' fQs 3) (lQs oa l.length c (ovr ones l)) := fun F hF =>
  B7' hF (fun _ => RO.ret _) (fun _ _ => hloop) fun _ => by
   simp only [RT.pick]; exact AY' rfl rfl (A0' Ye (A0' Ye (A0' Ye A2'))) A2' (A0' Ye A2') A2'
 have hz := D3' l h0
 have hr : IntKind.u32.wrap (o' 4294967295 - o' (ovr ones l)) = o' (ovr ones l ^^^ ones) := by
  rw [<- TS' hz, IntWalk.u32_in _ (by simp only [Z0]; omega)]; simp only [Z0]; omega
 refine AJ' (con := []) (hints := AC' [(fQs, 13, 1, hv (uN (ovr ones l ^^^ ones)))]) (lc := [(fQs, 3, A4' fQs 3, lQs oa l.length c (ovr ones l))]) [] rfl (fun _ _ => noC) (fun F hF => CK' (hL F hF)) fun F => ?_
 refine Yj (Z3' W oa l.length c (ovr ones l) (ovr ones l ^^^ ones) F) ⟨⟨?_, (AR' (vs' := [uN (ovr ones l ^^^ ones)]) (H' := []) [] rfl rfl (Yb) (show CG' [] [] [] [] from trivial)).fits rfl⟩⟩; clear hloop hL
 simp only [ch', true_and, and_true]; and_intros; all_goals first | (with_reducible exact Ye) | (with_reducible exact rfl) | (with_reducible exact E8' hr) | exact Kw12'
abbrev fQw : Nat := 63
def cNm : List AV -> Option (AP AV) := mkC (fun args => match args with | [_, .v (.int _ (.ofNat z))] => .ret z | _ => .fail "number") (fun z => z < 4294967296) (fun _ k => k) (fun z => [iv 4, iv (o' z)]) (fun _ => []) (fun z => .leaf .ret [sB 1000 4] [(1000, rB (be4 z))])
def cCy (n : Nat) (l : Bs) : List AV -> Option (AP AV) := mkC nm0 (fun _ => True) nmW (fun _ => [sB 0 n]) (fun _ => [(0, rB l)]) (fun _ => .leaf .ret [sB 1000 n] [(0, rB l), (1000, rB l)])
def cSu (n : Nat) (l : Bs) : List AV -> Option (AP AV) := mkC nm0 (fun _ => True) nmW (fun _ => [sB 0 n]) (fun _ => [(0, rB l)]) (fun _ => .leaf .ret [uN (ovr ones l ^^^ ones)] [(0, rB l)])
def aQa (oa : Option Addr) (n c i k : Nat) : List (Nat × AV) := [(0, slV oa n c), (4, sB 1011 4), (5, slX k), (6, iv (o' i))]
def kQa : List Nat := [1010, 1011, 1100, 1101, 1102, 1103]
theorem ZM' (W : World) (a : Addr) (n c i k : Nat) (x : UInt8) (K B : Bs) (F : HP) : AS' [] (AC' [ht' fQw 6 3, (fQw, 8, 4, hv (byv x)), (fQw, 7, 1, hv (iv (o' (i + 1))))]) [] W fQw (A4' fQw 6) (tms 0 51 (aQa (some a) n c i k)) [(1010, rB K), (1011, rB B)] kQa [0, 4, 5, 6] F = VT.leaf (AX.normal,[v' (sl' (some a) n c),AV.slice 1011 0 4 1 (Cp.lo 4),AV.slice 1101 0 (k + 1) 1 (Cp.lo (k + 1)),i' (i + 1)],51) [none,some (ce' (rowV encB B) 10),some (ce' [v' (vi' u8' ↑x.toNat)] 10),some (ce' (List.take (k * 1) (List.drop 0 (rowV encB K)) ++ [v' (vi' u8' ↑x.toNat)]) 10),none,none] 1102 (S4' i n W a x ((k103' k K).a ((k2' i).a k1'))) := χ
theorem ZL' (W : World) (oa : Option Addr) (n c k : Nat) (K B : Bs) (F : HP) : AS' [] (AC' [hf' fQw 6 3]) [] W fQw (A4' fQw 6) (tms 0 51 (aQa oa n c n k)) [(1010, rB K), (1011, rB B)] kQa [0, 4, 5, 6] F = VT.leaf (AX.exit 0,[v' (sl' oa n c),AV.slice 1011 0 4 1 (Cp.lo 4),AV.slice 1010 0 k 1 (Cp.lo k),i' n],51) [some (ce' (rowV encB K) 10),some (ce' (rowV encB B) 10),none,none,none,none] 1100 ((k105' n).a k1') := χ
def gXX (tmps : List AV) : AP (List (Nat × Nat)) := match tmps.getD 4 .any, tmps.getD 5 .any with
 | .slice i _ _ _ _, .slice j _ _ _ _ => .ret [(1010, j), (1011, i)]
 | _, _ => .fail "row"
def lQa (oa : Option Addr) (n c k : Nat) (K B : Bs) : List AV -> AP (AX × List AV) := mkL gXX (fun _ => True) nmF (fun _ => tms 0 51 (aQa oa n c 0 4)) (fun _ => [(1010, rB B), (1011, rB B)]) (fun _ => .leaf (.exit 0) (tms 0 51 [(0, slV oa n c), (4, sB 1011 4), (5, slX k)]) [(1010, rB K), (1011, rB B)])
def aQb (oa : Option Addr) (n c i k : Nat) : List (Nat × AV) := [(0, slV oa n c), (7, slX k), (8, iv (o' i))]
theorem ZK' (W : World) (a : Addr) (n c i k : Nat) (x : UInt8) (K : Bs) (F : HP) : AS' [] (AC' [ht' fQw 11 3, (fQw, 13, 4, hv (byv x)), (fQw, 12, 1, hv (iv (o' (i + 1))))]) [] W fQw (A4' fQw 11) (tms 0 51 (aQb (some a) n c i k)) [(1010, rB K)] kX [0, 7, 8] F = VT.leaf (AX.normal,[v' (sl' (some a) n c),AV.slice 1101 0 (k + 1) 1 (Cp.lo (k + 1)),i' (i + 1)],51) [none,some (ce' [v' (vi' u8' ↑x.toNat)] 10),some (ce' (List.take (k * 1) (List.drop 0 (rowV encB K)) ++ [v' (vi' u8' ↑x.toNat)]) 10),none,none] 1102 (S4' i n W a x ((k103' k K).a ((k2' i).a k1'))) := χ
theorem ZJ' (W : World) (oa : Option Addr) (n c k : Nat) (K : Bs) (F : HP) : AS' [] (AC' [hf' fQw 11 3]) [] W fQw (A4' fQw 11) (tms 0 51 (aQb oa n c n k)) [(1010, rB K)] kX [0, 7, 8] F = VT.leaf (AX.exit 2,[v' (sl' oa n c),AV.slice 1010 0 k 1 (Cp.lo k),i' n],51) [some (ce' (rowV encB K) 10),none,none,none,none] 1100 ((k105' n).a k1') := χ
def lQb (oa : Option Addr) (n c k : Nat) (K B : Bs) : List AV -> AP (AX × List AV) := mkL (gX 7) (fun _ => True) nmF (fun _ => tms 0 51 (aQb oa n c 0 8)) (fun _ => [(1010, rB B)]) (fun _ => .leaf (.exit 2) (tms 0 51 [(7, slX k)]) [(1010, rB K)])
def kQw : List Nat := [1100, 1101, 1102, 1103, 1104, 1105, 1106, 1107, 1108, 1109, 1110, 1111, 1112]
theorem YW' (W : World) (oa : Option Addr) (n c k1 k2 s : Nat) (B K1 B2 K2 : Bs) (F : HP) : wRun [(fQn, cNm), (fQc, cCy 4 B), (fQs, cSu k1 K1)] (AC' [hf' fQw 1 2, (fQw, 9, 3, hv (iv (o' s)))]) [(fQw, 6, A4' fQw 6, lQa oa n c k1 K1 B), (fQw, 11, A4' fQw 11, lQb oa n c k2 K2 B2)] W fQw [slV oa n c] [] kQw F = VT.leaf (AV.tuple [AV.slice 1106 0 k2 1 (Cp.lo k2),i' 0]) [none,none,some (ce' (AV.rens (sgN (nmW 1102) [] 0) (rowV encB K1)) 10),none,some (ce' [v' (vi' u8' ↑(UInt8.ofNat (s / 16777216)).toNat),v' (vi' u8' ↑(UInt8.ofNat (s / 65536)).toNat),v' (vi' u8' ↑(UInt8.ofNat (s / 256)).toNat),v' (vi' u8' ↑(UInt8.ofNat s).toNat)] 10),none,some (ce' (AV.rens (sgN (nmF [(1010,1105)]) [1010] 1106) (rowV encB K2)) 10),none,none,none,none,none,none] 1107 ((k18' n).a (((p' (n < 4294967296)).a (f' (VW [i' 4,z' ↑n] [i' 4,i' n]))).a (((cp' True).a ((vw' [AV.slice 1100 0 4 1 (Cp.lo 4)]).a (f' (OW (ce' [v' (vi' u8' ↑(UInt8.ofNat (n / 16777216)).toNat),v' (vi' u8' ↑(UInt8.ofNat (n / 65536)).toNat),v' (vi' u8' ↑(UInt8.ofNat (n / 256)).toNat),v' (vi' u8' ↑(UInt8.ofNat n).toNat)] 10) (ce' (AV.rens (nmW 1100) (rowV encB B)) 10))))).a ((p' ((fQw,6,A4' fQw 6,lQa oa n c k1 K1 B).snd.snd.fst = (fQw,6,A4' fQw 6,lQa oa n c k1 K1 B).snd.snd.fst)).a (k4'.a ((p' (VW (v' (sl' oa n c)::u'::e'::i' 0::AV.slice 1100 0 4 1 (Cp.lo 4)::AV.slice 1101 0 4 1 (Cp.lo 4)::i' 0::u'::u'::v' (sl' oa n c)::z' ↑n::g'::u'::v' (sl' oa n c)::z' ↑n::AV.slice 1100 0 4 1 (Cp.lo 4)::AV.slice 1100 0 4 1 (Cp.lo 4)::AV.slice 1101 0 4 1 (Cp.lo 4)::ru16 (ru16 (u'::[]))) (v' (sl' oa n c)::a'::a'::a'::AV.slice 1100 0 4 1 (Cp.lo 4)::AV.slice 1101 0 4 1 (Cp.lo 4)::i' 0::ra16 (ra16 (ra8 (ra4 ([]))))))).a ((p' (OW (ce' (AV.rens (sgN (nmW 1100) [1000] 1101) (rowV encB B)) 10) (ce' (AV.rens (nmF [(1010,1101),(1011,1100)]) (rowV encB B)) 10))).a ((p' (OW (ce' (AV.rens (sgN (nmW 1100) [1000] 1101) (rowV encB B)) 10) (ce' (AV.rens (nmF [(1010,1101),(1011,1100)]) (rowV encB B)) 10))).a (((cp' True).a ((vw' [AV.slice 1102 0 k1 1 (Cp.lo k1)]).a (f' (OW (ce' (AV.rens (sgN (nmF [(1010,1101),(1011,1100)]) [1010,1011] 1102) (rowV encB K1)) 10) (ce' (AV.rens (nmW 1102) (rowV encB K1)) 10))))).a ((f' (Wk (z' (IntKind.i64.wrap (o' (ovr 4294967295 K1 ^^^ 4294967295)))) (i' s))).a (((p' (s < 4294967296)).a (f' (VW [i' 4,i' s] [i' 4,i' s]))).a ((tt'.a (tt'.a (tt'.a (tt'.a ((p' (Nat.ble 4 (AV.rens (sgN (nmF [(1010,1101),(1011,1100)]) [1010,1011] 1102) (rowV encB B)).length = true)).a (tt'.a (tt'.a (f' ((List.take 4 (List.drop 0 (AV.rens (sgN (nmF [(1010,1101),(1011,1100)]) [1010,1011] 1102) (rowV encB B)))).length.beq 4 = true))))))))).a ((p' ((fQw,11,A4' fQw 11,lQb oa n c k2 K2 B2).snd.snd.fst = (fQw,11,A4' fQw 11,lQb oa n c k2 K2 B2).snd.snd.fst)).a (k4'.a ((p' (VW (v' (sl' oa n c)::a'::a'::a'::AV.slice 1103 0 4 1 (Cp.lo 4)::AV.slice 1102 0 k1 1 (Cp.lo k1)::a'::AV.slice 1105 0 8 1 (Cp.lo 8)::i' 0::ra16 (ra4 (a'::a'::AV.slice 1103 0 4 1 (Cp.lo 4)::AV.slice 1102 0 k1 1 (Cp.lo k1)::v' (vi' IntKind.u32 (o' (ovr 4294967295 K1 ^^^ 4294967295)))::i' s::AV.slice 1104 0 4 1 (Cp.lo 4)::AV.slice 1105 0 8 1 (Cp.lo 8)::ra8 (ra4 (a'::a'::[]))))) (v' (sl' oa n c)::ra4 (a'::a'::AV.slice 1105 0 8 1 (Cp.lo 8)::i' 0::ra16 (ra16 (ra8 (a'::a'::[]))))))).a ((p' (OW (ce' (List.take 4 (List.drop 0 (AV.rens (sgN (nmF [(1010,1101),(1011,1100)]) [1010,1011] 1102) (rowV encB B))) ++ [v' (vi' u8' ↑(UInt8.ofNat (s / 16777216)).toNat),v' (vi' u8' ↑(UInt8.ofNat (s / 65536)).toNat),v' (vi' u8' ↑(UInt8.ofNat (s / 256)).toNat),v' (vi' u8' ↑(UInt8.ofNat s).toNat)]) 10) (ce' (AV.rens (nmF [(1010,1105)]) (rowV encB B2)) 10))).a k1')))))))))))))))) := χ
theorem NU' (W : World) {f : FuncId} {l : Bs} {v : AV} {H' : LH} (hb : l.length <= big) (hl : AD' 1100 H' = true) (hd : ∀ i o, getO H' i = some o -> 1000 <= i /\ getO [(0, rB l)] i = none)
  (h : ∀ W' oa c, BAt W'.cell? oa l -> Tri Θ W' f [slV oa l.length c] [] v H') : Tri Θ W f [sB 0 l.length] [(0, rB l)] v ([(0, rB l)] ++ H') := by
 cases l with
 | cons b l => exact NT' (fun _ => True) (fun _ _ _ h => h) W trivial (pre := []) hb (Nat.succ_pos _) hl hd fun W' _ oa c hB _ => h W' oa c hB
 | nil =>
  refine HM' (H := [(0, rB [])]) (H' := H') rfl hl hd fun W0 F N w vargs hF hNB r ha => ?_
  obtain ⟨y, r1, q1, q2, e⟩ := ha; have q2 : r1 = [] := q2; subst q2; obtain ⟨lo, x, c, h1, rfl, h3⟩ := IW' q1
  exact ⟨[.slice (some ⟨lo.blk, x, none⟩) 0 c], e, h w (some ⟨lo.blk, x, none⟩) c ⟨Nat.zero_le _, fun i b hi => by cases hi⟩⟩
theorem cNm_ok (F : HP) : C1OK Θ F fQn cNm :=
 AX' (W := default) B8' (fun _ => sB 1000 4) (fun args => by split <;> first | exact RO.ret _ | exact RO.fail _) (fun _ => rfl) (fun z hz => qn_tri z hz) fun z => ⟨rfl, rfl, ⟨Ye, Ye, Ye⟩, A2', ⟨rfl, Ye⟩, A0' (AB' _ _) A2'⟩
theorem cCy_ok {l : Bs} (hb : l.length <= big) (F : HP) : C1OK Θ F fQc (cCy l.length l) :=
 AX' (W := default) B8' (fun _ => sB 1000 l.length) IA' (fun _ => rfl) (fun _ _ => NU' default (H' := [(1000, rB l)]) hb rfl (fun i o h => by
  simp only [getO] at h ⊢
  by_cases e : i = 1000
  ·subst e; exact ⟨δ, by simp⟩
  ·rw [if_neg e] at h; cases h) fun W' oa c h => V4' W' oa c l h) fun _ => ⟨rfl, rfl, ⟨rfl, Ye⟩, A0' (AB' _ _) A2', ⟨rfl, Ye⟩, A0' (AB' _ _) (A0' (AB' _ _) A2')⟩
theorem cSu_ok {l : Bs} (hb : l.length <= big) (F : HP) : C1OK Θ F fQs (cSu l.length l) :=
 AX' (W := default) B8' (fun _ => uN (ovr ones l ^^^ ones)) IA' (fun _ => rfl) (fun _ _ => NU' default (H' := []) hb rfl (fun i o h => by cases h) fun W' oa c h => qs_tri W' oa c l h) fun _ => ⟨rfl, rfl, ⟨rfl, Ye⟩, A0' (AB' _ _) A2', ⟨Ye, Ye⟩, A0' (AB' _ _) A2'⟩
theorem XC' (W : World) (oa : Option Addr) (c : Nat) (d B : Bs) (h : BAt W.cell? oa d) (hm : d.length <= 1048576) (h4 : B.length = 4) : LTri Θ W (A4' fQw 6) (tms 0 51 (aQa oa d.length c 0 4)) [(1010, rB B), (1011, rB B)] (.exit 0) (tms 0 51 [(0, slV oa d.length c), (4, sB 1011 4), (5, slX (4 + d.length))]) [(1010, rB (B ++ d)), (1011, rB B)] := by
 have hlen : d.length <= 140737488351232 := h.1; have key := AT' (W := W) (g := fQw) (b := A4' fQw 6) (σ := {j : Nat // j <= d.length}) 51 (fun j => aQa oa d.length c j.1 (4 + j.1)) (fun j => [(1010, rB (B ++ d.take j.1)), (1011, rB B)]) (.exit 0) [(0, slV oa d.length c), (4, sB 1011 4), (5, slX (4 + d.length))] [(1010, rB (B ++ d)), (1011, rB B)] (fun j => d.length - j.1) kQa [0, 4, 5, 6] (by intro h; cases h) (fun _ => rfl) rfl ?_ ⟨0, Nat.zero_le _⟩
 ·simp only [List.take_zero, List.append_nil] at key; exact key
 rintro ⟨j, hj⟩; simp only
 by_cases h1 : j < d.length
 ·obtain ⟨x, hx⟩ := BU' h1; obtain ⟨a, rfl, q1⟩ := h.2 j x hx; have hw := BR' j ω; have e1 : decide (o' j < o' d.length) = true := ltTN h1; obtain ⟨r1, r2, r3, r4, r5⟩ := PA' (k := B ++ d.take j) (i := 4 + j) (by rw [la', h4, List.length_take]; omega) (by show _ < 140737488351232; omega)
  have esn : B ++ d.take (j + 1) = (B ++ d.take j) ++ [x] := by rw [C6' hx, as']
  refine ⟨[], AC' [ht' fQw 6 3, (fQw, 8, 4, hv (byv x)), (fQw, 7, 1, hv (iv (o' (j + 1))))], [], fun F hF => noC, fun _ _ => noL, fun F => ?_⟩
  refine Yj (ZM' W a d.length c j (4 + j) x (B ++ d.take j) B F) ⟨⟨?_, rfl, .inl ⟨rfl, ⟨j + 1, h1⟩, BL' h1, [(1010, 1101), (1011, 1011)], by kernel_rfl, by kernel_rfl, ⟨Ya, Ya, Ya, Ya, Ye⟩, ⟨_, rfl, by rw [r4, <- KY', <- esn]; first | exact A5' (A1' _ _) rfl | exact A5' rfl rfl⟩, ⟨_, rfl, by first | exact A5' (A1' _ _) rfl | exact A5' rfl rfl⟩, Ye⟩⟩⟩
  exact Cw15'
 ·have hje : j = d.length := ω
  subst hje; rw [List.take_length]
  refine ⟨[], AC' [hf' fQw 6 3], [], fun _ _ => noC, fun _ _ => noL, fun F => ?_⟩
  refine Yj (ZL' W oa d.length c (4 + d.length) (B ++ d) B F) ⟨⟨?_, rfl, .inr ⟨rfl, [(1010, 1010), (1011, 1011)], by kernel_rfl, by kernel_rfl, ⟨Ya, Ya, Ya, Ye⟩, ⟨_, rfl, by first | exact A5' (A1' _ _) rfl | exact A5' rfl rfl⟩, ⟨_, rfl, by first | exact A5' (A1' _ _) rfl | exact A5' rfl rfl⟩, Ye⟩⟩⟩
  simp only [ch', and_true]; exact A3' (ltFN (Yd))
theorem XB' (W : World) (oa : Option Addr) (c : Nat) (d B : Bs) (h : BAt W.cell? oa d) (hm : d.length <= 1048576) (h8 : B.length = 8) : LTri Θ W (A4' fQw 11) (tms 0 51 (aQb oa d.length c 0 8)) [(1010, rB B)] (.exit 2) (tms 0 51 [(7, slX (8 + d.length))]) [(1010, rB (B ++ d))] := by
 have hlen : d.length <= 140737488351232 := h.1; have key := AT' (W := W) (g := fQw) (b := A4' fQw 11) (σ := {j : Nat // j <= d.length}) 51 (fun j => aQb oa d.length c j.1 (8 + j.1)) (fun j => [(1010, rB (B ++ d.take j.1))]) (.exit 2) [(7, slX (8 + d.length))] [(1010, rB (B ++ d))] (fun j => d.length - j.1) kX [0, 7, 8] (by intro h; cases h) (fun _ => rfl) rfl ?_ ⟨0, Nat.zero_le _⟩
 ·simp only [List.take_zero, List.append_nil] at key; exact key
 rintro ⟨j, hj⟩; simp only
 by_cases h1 : j < d.length
 ·obtain ⟨x, hx⟩ := BU' h1; obtain ⟨a, rfl, q1⟩ := h.2 j x hx; have hw := BR' j ω; have e1 : decide (o' j < o' d.length) = true := ltTN h1; obtain ⟨r1, r2, r3, r4, r5⟩ := PA' (k := B ++ d.take j) (i := 8 + j) (by rw [la', h8, List.length_take]; omega) (by show _ < 140737488351232; omega)
  have esn : B ++ d.take (j + 1) = (B ++ d.take j) ++ [x] := by rw [C6' hx, as']
  refine ⟨[], AC' [ht' fQw 11 3, (fQw, 13, 4, hv (byv x)), (fQw, 12, 1, hv (iv (o' (j + 1))))], [], fun F hF => noC, fun _ _ => noL, fun F => ?_⟩
  refine Yj (ZK' W a d.length c j (8 + j) x (B ++ d.take j) F) ⟨⟨?_, rfl, .inl ⟨rfl, ⟨j + 1, h1⟩, BL' h1, [(1010, 1101)], by kernel_rfl, by kernel_rfl, ⟨Ya, Ya, Ya, Ye⟩, ⟨_, rfl, by rw [r4, <- KY', <- esn]; first | exact A5' (A1' _ _) rfl | exact A5' rfl rfl⟩, Ye⟩⟩⟩
  exact Cw15'
 ·have hje : j = d.length := ω
  subst hje; rw [List.take_length]
  refine ⟨[], AC' [hf' fQw 11 3], [], fun _ _ => noC, fun _ _ => noL, fun F => ?_⟩
  refine Yj (ZJ' W oa d.length c (8 + d.length) (B ++ d) F) ⟨⟨?_, rfl, .inr ⟨rfl, [(1010, 1010)], by kernel_rfl, by kernel_rfl, ⟨Ya, Ye⟩, ⟨_, rfl, by first | exact A5' (A1' _ _) rfl | exact A5' rfl rfl⟩, Ye⟩⟩⟩
  simp only [ch', and_true]; exact A3' (ltFN (Yd))
theorem gXX_ro (tmps : List AV) : RO (gXX tmps) := by unfold gXX; split <;> first | exact RO.ret _ | exact RO.fail _
theorem qw_tri (W : World) (oa : Option Addr) (c : Nat) (d : Bs) (h : BAt W.cell? oa d) (hm : d.length <= most) : Tri Θ W fQw [slV oa d.length c] [] (.tuple [sB 1000 (8 + d.length), iv 0]) [(1000, rB (AH' d))] := by
 have hm' : d.length <= 1048576 := hm; have hs := R9' d; have f1 : decide ((d.length : Int) > o' 1048576) = false := decide_eq_false (by simp only [Z0]; omega)
 have f2 : d.length < 4294967296 := ω
 have hK : ovr ones (be4 d.length ++ d) ^^^ ones = sumB d := by rw [sumB, ovr, List.foldl_append]; rfl
 have f3 : IntKind.i64.wrap (o' (ovr 4294967295 (be4 d.length ++ d) ^^^ 4294967295)) = o' (sumB d) := by
  rw [show (ovr 4294967295 (be4 d.length ++ d) ^^^ 4294967295 : Nat) = sumB d from hK]; exact IntWalk.i64_in _ (by simp only [Z0]; omega)
 have hkl : (be4 d.length ++ d).length = 4 + d.length := by rw [la', DG']
 have q1 : ∀ F, AF' W F -> L1OK Θ F (A4' fQw 6) (lQa oa d.length c (4 + d.length) (be4 d.length ++ d) (be4 d.length)) := fun F hF =>
  B7' hF gXX_ro (fun _ _ => XC' W oa c d (be4 d.length) h hm' rfl) fun _ => by
   simp only [RT.pick]; exact AY' rfl rfl (A0' Ye (A0' rfl (A0' rfl (A0' Ye A2')))) (A0' (AB' _ _) (A0' (AB' _ _) A2')) (A0' Ye (A0' rfl (A0' rfl A2'))) (A0' (AB' _ _) (A0' (AB' _ _) A2'))
 have q2 : ∀ F, AF' W F -> L1OK Θ F (A4' fQw 11) (lQb oa d.length c (8 + d.length) (AH' d) (be4 d.length ++ be4 (sumB d))) := fun F hF =>
  B7' hF (UC' _) (fun _ _ => XB' W oa c d (be4 d.length ++ be4 (sumB d)) h hm' rfl) fun _ => by
   simp only [RT.pick]; exact AY' rfl rfl (A0' Ye (A0' rfl (A0' Ye A2'))) (A0' (AB' _ _) A2') (A0' rfl A2') (A0' (AB' _ _) A2')
 have c1 := fun F => cCy_ok (l := be4 d.length) (by show (4 : Nat) <= 140737488351232; omega) F
 have c2 := fun F => cSu_ok (l := be4 d.length ++ d) (by show _ <= 140737488351232; rw [hkl]; omega) F
 rw [hkl] at c2
 refine AJ' (con := [(fQn, cNm), (fQc, cCy 4 (be4 d.length)), (fQs, cSu (4 + d.length) (be4 d.length ++ d))]) (hints := AC' [hf' fQw 1 2, (fQw, 9, 3, hv (iv (o' (sumB d))))]) (lc := [(fQw, 6, A4' fQw 6, lQa oa d.length c (4 + d.length) (be4 d.length ++ d) (be4 d.length)), (fQw, 11, A4' fQw 11, lQb oa d.length c (8 + d.length) (AH' d) (be4 d.length ++ be4 (sumB d)))]) kQw rfl (fun F _ => A7' (cNm_ok F) (A7' (c1 F) (BA' (c2 F)))) (fun F hF x hx => by
  rcases List.mem_cons.1 hx with rfl | hx
  ·exact q1 F hF
  ·obtain rfl := List.mem_singleton.1 hx
   exact q2 F hF) fun F => ?_
 refine Yj (YW' W oa d.length c (4 + d.length) (8 + d.length) (sumB d) (be4 d.length) (be4 d.length ++ d) (be4 d.length ++ be4 (sumB d)) (AH' d) F) ⟨⟨?_, (AR' (vs' := [.tuple [sB 1000 (8 + d.length), iv 0]]) (H' := [(1000, rB (AH' d))]) [(1000, 1106)] rfl rfl (Yb) ⟨⟨_, rfl, by first | exact A5' (A1' _ _) rfl | exact A5' rfl rfl⟩, Ye⟩).fits rfl⟩⟩
 clear q1 q2 c1 c2
 simp only [ch', A1', f2, hs, true_and, and_true]; and_intros; all_goals first | (with_reducible exact Ye) | (with_reducible exact rfl) | (with_reducible exact A3' f1) | (with_reducible exact AL' f3) | exact rfl | exact Yb | exact Kw31'
def cQw (n : Nat) (d w : Bs) : List AV -> Option (AP AV) := mkC nm0 (fun _ => True) nmW (fun _ => [sB 0 n]) (fun _ => [(0, rB d)]) (fun _ => .leaf .ret [.tuple [sB 1000 (8 + n), iv 0]] [(0, rB d), (1000, rB w)])
theorem cQw_ok {d : Bs} (hm : d.length <= most) (F : HP) : C1OK Θ F fQw (cQw d.length d (AH' d)) :=
 AX' (W := default) B8' (fun _ => .tuple [sB 1000 (8 + d.length), iv 0]) IA' (fun _ => rfl) (fun _ _ => NU' default (H' := [(1000, rB (AH' d))]) (by have : d.length <= 1048576 := hm; show _ <= 140737488351232; omega) rfl (fun i o h => by
  simp only [getO] at h ⊢
  by_cases e : i = 1000
  ·subst e; exact ⟨δ, by simp⟩
  ·rw [if_neg e] at h; cases h) fun W' oa c h => qw_tri W' oa c d h hm) fun _ => ⟨rfl, rfl, ⟨rfl, Ye⟩, A0' (AB' _ _) A2', ⟨⟨rfl, Ye, Ye⟩, Ye⟩, A0' (AB' _ _) (A0' (AB' _ _) A2')⟩
noncomputable section
abbrev fQu : Nat := 48
def cVl (oa : Option Addr) (c v : Nat) : List AV -> Option (AP AV) := mkC (fun _ => .ret ()) (fun _ => True) (fun _ k => k) (fun _ => [slV oa 4 c]) (fun _ => []) (fun _ => .leaf .ret [iv (o' v)] [])
def cCz (oa : Option Addr) (n c : Nat) (d : Bs) : List AV -> Option (AP AV) := mkC (fun _ => .ret ()) (fun _ => True) (fun _ k => k) (fun _ => [slV oa n c]) (fun _ => []) (fun _ => .leaf .ret [sB 1000 n] [(1000, rB d)])
def hQu1 : List (Nat × Nat × Nat × Hint) := [hf' fQu 1 2, (fQu, 3, 1, h0)]
def hQu2 (v : Nat) : List (Nat × Nat × Nat × Hint) := [hf' fQu 4 1, (fQu, 6, 1, hv (iv (o' (8 + v))))]
def hQu3 (b : Addr) (v c' : Nat) (s1 s2 : Δ) (x : Bool) : List (Nat × Nat × Nat × Hint) := [hf' fQu 7 3, (fQu, 9, 2, h0v (.v (.slice (some b) v c'))), (fQu, 11, 1, ht s1), (fQu, 11, 4, h0), (fQu, 11, 5, ht s2), (fQu, 11, 6, hv (.lit x))]
theorem XQ' (W : World) (oa : Option Addr) (n c : Nat) (F : HP) : wRun [] (AC' [ht' fQu 1 2]) [] W fQu [slV oa n c] [] [] F = VT.leaf (AV.tuple [AV.slice 1100 0 0 1 (Cp.ex 0),i' 0,i' 3]) [] 1101 ((k20' n).a k1') := χ
theorem XR' (W : World) (a : Addr) (n c v : Nat) (F : HP) : wRun [(fQv, cVl (some a) c v)] (AC' (hQu1 ++ [ht' fQu 4 1])) [] W fQu [slV (some a) n c] [] [] F = VT.leaf (AV.tuple [AV.slice 1100 0 0 1 (Cp.ex 0),i' 0,i' 1]) [] 1101 ((wb' (decide (↑n < o' 8)) g').a (((p' (0 <= 4)).a (f' (4 <= c))).a (((cp' True).a (f' (VW [v' (sl' (some a) 4 c)] [v' (sl' (some a) 4 c)]))).a ((k21' v).a k1')))) := χ
abbrev bN' (q0 q1 : Nat) (q2 : Addr) (q3 : Nat) (z : Cnd) : Cnd := ((wb' (decide (↑q0 < o' 8)) g').a (((p' (0 <= 4)).a (f' (4 <= q1))).a (((p' True).a (f' (VW [v' (sl' (some q2) 4 q1)] [v' (sl' (some q2) 4 q1)]))).a ((wb' (decide (o' q3 > o' 1048576)) g').a ((f' (Wk (z' (IntKind.i64.wrap (o' 8 + o' q3))) (i' (8 + q3)))).a z)))))
theorem XT' (W : World) (a : Addr) (n c v : Nat) (F : HP) : wRun [(fQv, cVl (some a) c v)] (AC' (hQu1 ++ hQu2 v ++ [ht' fQu 7 3])) [] W fQu [slV (some a) n c] [] [] F = VT.leaf (AV.tuple [AV.slice 1100 0 0 1 (Cp.ex 0),i' 0,i' 3]) [] 1101 (bN' n c a v ((wb' (decide (↑n < o' (8 + v))) j').a k1')) := χ
abbrev k110' (q0 q1 q2 q3 : Nat) (q4 : Bs) (q5 : Addr) (q6 : Δ) : Cnd := (f' (0 + (8 + q0) <= (AV.rens (sgN (nmW q1) [q2] q3) (rowV encB q4)).length /\ List.take (8 + q0) (List.drop 0 (AV.rens (sgN (nmW q1) [q2] q3) (rowV encB q4))) = vmap (List.map (fun q5 => vi' u8' ↑q5.toNat) q6.data.toList)))
abbrev k111' (q0 q1 q2 : Nat) (q3 : Bs) : Cnd := ((p' True).a ((vw' [AV.slice q0 0 q1 1 (Cp.lo q1)]).a (f' (OW (ce' (AV.rens (sgN (fun k => k) [q2] q0) (rowV encB q3)) 10) (ce' (AV.rens (nmW q0) (rowV encB q3)) 10)))))
abbrev k112' (q0 : Addr) (q1 q2 : Nat) : Cnd := ((p' True).a (f' (VW [v' (sl' (some q0) q1 q2)] [v' (sl' (some q0) q1 q2)])))
abbrev k113' (q0 q1 : Nat) (q2 q3 : Addr) (q4 : Nat) : Cnd := ((p' (8 <= 8 + q0)).a ((p' (8 + q0 <= q1)).a (f' (Wk (v' (sl' (if q1 = 8 then some q2 else some (Addr.mk q2.block (q2.off + 8) none)) (8 + q0 - 8) (q1 - 8))) (v' (sl' (some q3) q0 q4))))))
abbrev k114' (q0 q1 : Nat) : Cnd := (wb' (decide (↑q0 < o' (8 + q1))) g')
theorem XU' (W : World) (a b : Addr) (n c v c' : Nat) (d w : Bs) (s1 s2 : Δ) (F : HP) : wRun [(fQv, cVl (some a) c v), (fQc, cCz (some b) v c' d), (fQw, cQw v d w)] (AC' (hQu1 ++ hQu2 v ++ hQu3 b v c' s1 s2 true)) [] W fQu [slV (some a) n c] [] [] F = VT.leaf (AV.tuple [AV.slice 1102 0 0 1 (Cp.ex 0),i' 0,i' 9]) [] 1103 (bN' n c a v ((k114' n v).a ((k113' v c a b c').a ((k112' b v c').a ((k111' 1100 v 1000 d).a ((k110' v 1100 1000 1101 w b s1).a (((p' (0 <= 8 + v)).a (f' (8 + v <= c))).a ((f' (s2.size = 8 + v /\ ∀ (j : Nat),j < s2.size -> (envW [(fQv,cVl (some a) c v),(fQc,cCz (some b) v c' d),(fQw,cQw v d w)] (AC' (hQu1 ++ hQu2 v ++ hQu3 b v c' s1 s2 true)) [] W F).W.cell? (a.add j) = some (vi' u8' ↑(s2.data.toList.getD j 0).toNat))).a ((f' (Wk (v' (Value.bool !s1.toList == s2.toList)) j')).a k1'))))))))) := χ
theorem XS' (W : World) (a b : Addr) (n c v c' : Nat) (d w : Bs) (s1 s2 : Δ) (F : HP) : wRun [(fQv, cVl (some a) c v), (fQc, cCz (some b) v c' d), (fQw, cQw v d w)] (AC' (hQu1 ++ hQu2 v ++ hQu3 b v c' s1 s2 false)) [] W fQu [slV (some a) n c] [] [1100, 1101, 1102, 1103, 1104] F = VT.leaf (AV.tuple [AV.slice 1100 0 v 1 (Cp.lo v),i' (8 + v),i' 0]) [some (ce' (AV.rens (sgN (nmW 1100) [1000] 1101) (rowV encB d)) 10),some (ce' (AV.rens (sgN (nmW 1100) [1000] 1101) (rowV encB w)) 10),none,none,none] 1102 (bN' n c a v ((k114' n v).a ((k113' v c a b c').a ((k112' b v c').a ((k111' 1100 v 1000 d).a ((k110' v 1100 1000 1101 w b s1).a (((p' (0 <= 8 + v)).a (f' (8 + v <= c))).a ((f' (s2.size = 8 + v /\ ∀ (j : Nat),j < s2.size -> (envW [(fQv,cVl (some a) c v),(fQc,cCz (some b) v c' d),(fQw,cQw v d w)] (AC' (hQu1 ++ hQu2 v ++ hQu3 b v c' s1 s2 false)) [] W F).W.cell? (a.add j) = some (vi' u8' ↑(s2.data.toList.getD j 0).toNat))).a ((f' (Wk (v' (Value.bool !s1.toList == s2.toList)) g')).a k1'))))))))) := χ
end
theorem SK' {a : Addr} {l : Bs} (h : BAt W.cell? (some a) l) (h8 : 8 <= l.length) (F : HP) (hF : AF' W F) : C1OK Θ F fQv (cVl (some a) c (val (l.take 4))) :=
 AX' hF (fun _ => iv (o' (val (l.take 4)))) (fun _ => RO.ret _) (fun _ => rfl) (fun _ _ => by
  have := qv_tri W (some a) c (l.take 4) (h.take 4) (by rw [List.length_take]; omega)
  rw [show (l.take 4).length = 4 by rw [List.length_take]; omega] at this
  exact this) fun _ => ⟨rfl, rfl, ⟨Ye, Ye⟩, A2', ⟨Ye, Ye⟩, A2'⟩
def datB (a : Addr) (c : Nat) : Addr := if c = 8 then a else ⟨a.block, a.off + 8, none⟩
theorem bY' (a : Addr) (c v : Nat) : sl' (if c = 8 then some a else some (Addr.mk a.block (a.off + 8) none)) (8 + v - 8) (c - 8) = sl' (some (datB a c)) v (c - 8) := by
 rw [show 8 + v - 8 = v by omega, datB]
 split <;> rfl
theorem bZ' {C : Mem} {a : Addr} {l : Bs} (h : BAt C (some a) l) (hc : l.length <= c) (v : Nat) (hv : 8 + v <= l.length) : BAt C (some (datB a c)) ((l.drop 8).take v) := by
 unfold datB; split
 ·have hv0 : v = 0 := ω
  subst hv0; rw [List.take_zero]
  exact ⟨Nat.zero_le _, fun i b hb => by cases hb⟩
 ·exact (h.drop 8).take v
theorem cCz_ok {a : Addr} {l : Bs} (h : BAt W.cell? (some a) l) (c' : Nat) (F : HP) (hF : AF' W F) : C1OK Θ F fQc (cCz (some a) l.length c' l) :=
 AX' hF (fun _ => sB 1000 l.length) (fun _ => RO.ret _) (fun _ => rfl) (fun _ _ => V4' W (some a) c' l h) fun _ => ⟨rfl, rfl, ⟨Ye, Ye⟩, A2', ⟨rfl, Ye⟩, A0' (AB' _ _) A2'⟩
structure UqK (W : World) (a : Addr) (c : Nat) (l : Bs) (v : Nat) (d : Bs) : Prop where
 h : BAt W.cell? (some a) l
 hc : l.length <= c
 hv : v = val (l.take 4)
 hm : v <= 1048576
 hl : 8 + v <= l.length
 hb : l.length <= 140737488351232
 hd : d = (l.drop 8).take v
theorem UqK.dl {a : Addr} {l : Bs} {v : Nat} {d : Bs} (K : UqK W a c l v d) : d.length = v := by
 rw [K.hd, List.length_take, ld']; have := K.hl; omega
theorem UqK.con {a : Addr} {l : Bs} {v : Nat} {d : Bs} (K : UqK W a c l v d) (F : HP) (hF : AF' W F) : ∀ x ∈ ([(fQv, cVl (some a) c v), (fQc, cCz (some (datB a c)) v (c - 8) d), (fQw, cQw v d (AH' d))] : E7'), C1OK Θ F x.1 x.2 := by
 have hl := K.hl; have hB := bZ' K.h K.hc v K.hl; rw [<- K.hd] at hB; have q2 := cCz_ok hB (c - 8) F hF; have q3 := cQw_ok (d := d) (by rw [K.dl]; exact K.hm) F; rw [K.dl] at q2 q3; have q1 := SK' (c := c) K.h ω F hF; rw [<- K.hv] at q1; exact A7' q1 (A7' q2 (BA' q3))
theorem tl_ne {s t : Bs} (h : s ≠ t) : ((ByteArray.mk ⟨s⟩).toList == (ByteArray.mk ⟨t⟩).toList) = false := by
 rw [N4', N4']; exact beq_eq_false_iff_ne.2 h
theorem UY' (W : World) (a : Addr) (c : Nat) (l : Bs) (v : Nat) (d : Bs) (K : UqK W a c l v d) :
  (AH' d ≠ l.take (8 + v) -> Tri Θ W fQu [slV (some a) l.length c] [] (.tuple [.any, .any, iv 9]) []) /\
  (AH' d = l.take (8 + v) -> Tri Θ W fQu [slV (some a) l.length c] [] (.tuple [sB 1000 v, iv (o' (8 + v)), iv 0]) [(1000, rB d)]) := by
 have hl := K.hl; have hm := K.hm; have hb := K.hb; have hc := K.hc; have hdl := K.dl; have f1 : decide ((l.length : Int) < o' 8) = false := decide_eq_false (by simp only [Z0]; omega); have f2 : decide (o' v > o' 1048576) = false := decide_eq_false (by simp only [Z0]; omega)
 have f3 : IntKind.i64.wrap (o' 8 + o' v) = o' (8 + v) := by
  rw [IntWalk.i64_in _ (by simp only [Z0]; omega)]; simp only [Z0]; omega
 have f4 : decide ((l.length : Int) < o' (8 + v)) = false := decide_eq_false (by simp only [Z0]; omega); have f5 := bY' a c v
 have hwl : (AH' d).length = 8 + v := by rw [B2', hdl]
 have f6 : 0 + (8 + v) <= (rowV encB (AH' d)).length /\ List.take (8 + v) (List.drop 0 (rowV encB (AH' d))) = vmap (List.map (fun b => vi' u8' ↑b.toNat) (AH' d)) := by
  have e : (rowV encB (AH' d)).length = 8 + v := by rw [BJ', hwl]
  refine ⟨by rw [e]; omega, ?_⟩; rw [List.drop_zero, List.take_of_length_le (by rw [e]; exact Yd), DX']
 have hT := LW' (K.h.take (8 + v))
 have htl : (l.take (8 + v)).length = 8 + v := by rw [List.length_take]; omega
 rw [htl] at hT
 have g1 : (4 : Nat) <= c := ω
 have g2 : 8 + v <= c := ω
 have g3 : 8 <= 8 + v := ω
 refine ⟨fun hx => ?_, fun hx => ?_⟩
 ·have f7 : (!((ByteArray.mk ⟨AH' d⟩).toList == (ByteArray.mk ⟨l.take (8 + v)⟩).toList)) = true := by rw [tl_ne hx]; rfl
  refine AJ' (con := [(fQv, cVl (some a) c v), (fQc, cCz (some (datB a c)) v (c - 8) d), (fQw, cQw v d (AH' d))]) (hints := AC' (hQu1 ++ hQu2 v ++ hQu3 (datB a c) v (c - 8) ⟨⟨AH' d⟩⟩ ⟨⟨l.take (8 + v)⟩⟩ true)) (lc := []) [] rfl (fun F hF => K.con F hF) (fun F _ => noL) fun F => ?_
  refine Yj (XU' W a (datB a c) l.length c v (c - 8) d (AH' d) ⟨⟨AH' d⟩⟩ ⟨⟨l.take (8 + v)⟩⟩ F) ⟨⟨?_, (AR' (vs' := [.tuple [.any, .any, iv 9]]) (H' := []) [] rfl rfl (VW.cons (I8' (VW.cons (Wk.any _) (VW.cons (Wk.any _) (Yb)))) (Yb)) (show CG' [] [] [] [] from trivial)).fits rfl⟩⟩; exact Cw16'
 ·have f7 : (!((ByteArray.mk ⟨AH' d⟩).toList == (ByteArray.mk ⟨l.take (8 + v)⟩).toList)) = false := by rw [hx, beq_self_eq_true]; rfl
  refine AJ' (con := [(fQv, cVl (some a) c v), (fQc, cCz (some (datB a c)) v (c - 8) d), (fQw, cQw v d (AH' d))]) (hints := AC' (hQu1 ++ hQu2 v ++ hQu3 (datB a c) v (c - 8) ⟨⟨AH' d⟩⟩ ⟨⟨l.take (8 + v)⟩⟩ false)) (lc := []) [1100, 1101, 1102, 1103, 1104] rfl (fun F hF => K.con F hF) (fun F _ => noL) fun F => ?_
  refine Yj (XS' W a (datB a c) l.length c v (c - 8) d (AH' d) ⟨⟨AH' d⟩⟩ ⟨⟨l.take (8 + v)⟩⟩ F) ⟨⟨?_, (AR' (vs' := [.tuple [sB 1000 v, iv (o' (8 + v)), iv 0]]) (H' := [(1000, rB d)]) [(1000, 1100)] rfl rfl (Yb) ⟨⟨_, rfl, by first | exact A5' (A1' _ _) rfl | exact A5' rfl rfl⟩, Ye⟩).fits rfl⟩⟩
  exact Cw16'
theorem WA' (W : World) (oa : Option Addr) (c : Nat) (l : Bs) (h : BAt W.cell? oa l) (hc : l.length <= c) (hu : unwB l = none) : ∃ e : Nat, e ≠ 0 /\ Tri Θ W fQu [slV oa l.length c] [] (.tuple [.any, .any, iv (o' e)]) [] := by
 have hb : l.length <= 140737488351232 := h.1
 have wt : ∀ x y z : AV, VW [.tuple [x, y, z]] [.tuple [.any, .any, z]] := fun x y z => VW.cons (I8' (VW.cons (Wk.any _) (VW.cons (Wk.any _) (Yb)))) (Yb)
 by_cases h8 : l.length < 8
 ·refine ⟨3, by decide, ?_⟩
  have f1 : decide ((l.length : Int) < o' 8) = true := decide_eq_true (by simp only [Z0]; omega)
  refine AJ' (con := []) (hints := AC' [ht' fQu 1 2]) (lc := []) [] rfl (fun _ _ => noC) (fun F _ => noL) fun F => ?_
  refine Yj (XQ' W oa l.length c F) ⟨⟨?_, (AR' (vs' := [.tuple [.any, .any, iv 3]]) (H' := []) [] rfl rfl (wt _ _ _) (show CG' [] [] [] [] from trivial)).fits rfl⟩⟩; simp only [ch', and_true]; exact A3' f1
 ·obtain ⟨a, rfl⟩ := IV' h ω; have f1 : decide ((l.length : Int) < o' 8) = false := decide_eq_false (by simp only [Z0]; omega)
  have g1 : (4 : Nat) <= c := ω
  by_cases hm : val (l.take 4) <= most
  ·have hm' : val (l.take 4) <= 1048576 := hm
   by_cases hl : 8 + val (l.take 4) <= l.length
   ·refine ⟨9, by decide, ?_⟩
    refine (UY' W a c l (val (l.take 4)) ((l.drop 8).take (val (l.take 4))) ⟨h, hc, rfl, hm, hl, hb, rfl⟩).1 fun he => ?_
    rw [(WB' ω hm hl).1 he] at hu; cases hu
   ·refine ⟨3, by decide, ?_⟩
    generalize hvv : val (l.take 4) = v at *
    have f2 : decide (o' v > o' 1048576) = false := decide_eq_false (by simp only [Z0]; omega)
    have f3 : IntKind.i64.wrap (o' 8 + o' v) = o' (8 + v) := by
     rw [IntWalk.i64_in _ (by simp only [Z0]; omega)]; simp only [Z0]; omega
    have f4 : decide ((l.length : Int) < o' (8 + v)) = true := decide_eq_true (by simp only [Z0]; omega)
    refine AJ' (con := [(fQv, cVl (some a) c v)]) (hints := AC' (hQu1 ++ hQu2 v ++ [ht' fQu 7 3])) (lc := []) [] rfl (fun F hF => BA' (by rw [<- hvv]; exact SK' h ω F hF)) (fun F _ => noL) fun F => ?_
    refine Yj (XT' W a l.length c v F) ⟨⟨?_, (AR' (vs' := [.tuple [.any, .any, iv 3]]) (H' := []) [] rfl rfl (wt _ _ _) (show CG' [] [] [] [] from trivial)).fits rfl⟩⟩
    simp only [ch', g1, Nat.zero_le, true_and, and_true]; and_intros; all_goals first | (with_reducible exact Ye) | (with_reducible exact A3' f1) | (with_reducible exact A3' f2) | (with_reducible exact AL' f3) | (with_reducible exact A3' f4) | exact Yb
  ·refine ⟨1, by decide, ?_⟩
   have hm' : ¬ val (l.take 4) <= 1048576 := hm
   generalize hvv : val (l.take 4) = v at *
   have f2 : decide (o' v > o' 1048576) = true := decide_eq_true (by simp only [Z0]; omega)
   refine AJ' (con := [(fQv, cVl (some a) c v)]) (hints := AC' (hQu1 ++ [ht' fQu 4 1])) (lc := []) [] rfl (fun F hF => BA' (by rw [<- hvv]; exact SK' h ω F hF)) (fun F _ => noL) fun F => ?_
   refine Yj (XR' W a l.length c v F) ⟨⟨?_, (AR' (vs' := [.tuple [.any, .any, iv 1]]) (H' := []) [] rfl rfl (wt _ _ _) (show CG' [] [] [] [] from trivial)).fits rfl⟩⟩
   simp only [ch', g1, Nat.zero_le, true_and, and_true]; and_intros; all_goals first | (with_reducible exact Ye) | (with_reducible exact A3' f1) | (with_reducible exact A3' f2) | exact Yb
theorem W9' (W : World) (oa : Option Addr) (c : Nat) (l d : Bs) (h : BAt W.cell? oa l) (hc : l.length <= c) (hu : unwB l = some d) : Tri Θ W fQu [slV oa l.length c] [] (.tuple [sB 1000 d.length, iv (o' (8 + d.length)), iv 0]) [(1000, rB d)] := by
 obtain ⟨h8, hm, hg, hx, e1, e2⟩ := IT' hu; obtain ⟨a, rfl⟩ := IV' h h8; have hw := UZ' hu; rw [e2] at hw ⊢; exact (UY' W a c l (val (l.take 4)) d ⟨h, hc, rfl, hm, by omega, h.1, e1⟩).2 hw
noncomputable section
abbrev fQh : Nat := 24
def aQh (oa : Option Addr) (n c z e : Nat) : List (Nat × AV) := [(0, slV oa n c), (4, slW z), (5, iv (o' e))]
def oQh (V : List Value) : LH := [(1006, .cells (vmap V) tRb), (1009, dumZ)]
def cUe (ob : Option Addr) (m k e : Nat) : List AV -> Option (AP AV) := mkC (fun _ => .ret ()) (fun _ => True) (fun _ k => k) (fun _ => [slV ob m k]) (fun _ => []) (fun _ => .leaf .ret [.tuple [.any, .any, iv (o' e)]] [])
def hQh (ob : Option Addr) (m k eR : Nat) (b : Bool) : BD' := AC' [(fQh, 3, 2, h0v (slV ob m k)), (fQh, 4, 1, hv (.lit b)), (fQh, 7, 2, hv (iv (o' eR)))]
theorem ZF' (W : World) (oa : Option Addr) (n c m k e z : Nat) (ob : Option Addr) (V : List Value) (F : HP) : AS' [(fQu, cUe ob m k (e + 1))] (hQh ob m k 0 true) [] W fQh (A4' fQh 3) (tms 0 29 (aQh oa n c z 0)) (oQh V) kWh [0, 2, 4, 5] F = VT.leaf (AX.ret,[v' (sl' oa n c),AV.slice 1006 0 z 1 (Cp.lo z),AV.slice 1006 0 z 1 (Cp.lo z),i' 0],29) [some (ce' (vmap V) 98),some (AO.any (frz fun x => True)),none,none,none,none] 1100 (h28' n c oa ob m k (k5'.a k1')) := χ
theorem ZE' (W : World) (oa : Option Addr) (n c m k e s z : Nat) (ob : Option Addr) (V : List Value) (F : HP) : AS' [(fQu, cUe ob m k (e + 1))] (hQh ob m k 0 true) [] W fQh (A4' fQh 3) (tms 0 29 (aQh oa n c z (s + 1))) (oQh V) kWh [0, 2, 4, 5] F = VT.leaf (AX.ret,[v' (sl' oa n c),AV.slice 1006 0 z 1 (Cp.lo z),AV.slice 1006 0 z 1 (Cp.lo z),i' (s + 1)],29) [some (ce' (vmap V) 98),some (AO.any (frz fun x => True)),none,none,none,none] 1100 (h29' s n c oa ob m k k1') := χ
abbrev k115' (q0 : Nat) (q1 : List Value) : Cnd := (tt'.a (tt'.a (tt'.a (tt'.a ((p' ((0 + q0 * 1).ble (vmap q1).length = true)).a ((p' (((q0 + 1) * 24).ble 140737488355328 = true)).a ((p' ((q0 + 1).ble 9223372036854775807 = true)).a (f' ((List.take (q0 * 1) (List.drop 0 (vmap q1))).length.beq (q0 * 1) = true)))))))))
theorem ZD' (W : World) (oa : Option Addr) (n c m k p q eR z : Nat) (ob : Option Addr) (d : Bs) (V : List Value) (F : HP) : AS' [(fQu, cUnS ob m k p q d)] (hQh ob m k eR false) [] W fQh (A4' fQh 3) (tms 0 29 (aQh oa n c z 0)) (oQh V) kWh [0, 2, 4, 5] F = VT.leaf (AX.normal,[v' (sl' oa n c),a',AV.slice 1102 0 (z + 1) 1 (Cp.lo (z + 1)),i' eR],29) [none,some (AO.any (frz fun x => True)),some (ce' (AV.rens (sgN (fun k => k) [1000] 1100) (rowV encB d)) 10),some (ce' [AV.slice 1100 0 p 1 (Cp.lo p)] 98),some (ce' (List.take (z * 1) (List.drop 0 (vmap V)) ++ [AV.slice 1100 0 p 1 (Cp.lo p)]) 98),none] 1103 (((p' (0 <= n)).a ((p' (n <= c)).a (f' (Wk (v' (sl' oa n c)) (v' (sl' ob m k)))))).a (((cp' True).a (f' (VW [v' (sl' ob m k)] [v' (sl' ob m k)]))).a (k7'.a ((k115' z V).a ((k30' q eR).a k1'))))) := χ
theorem ZC' (W : World) (oa : Option Addr) (n c m k p q eR s z : Nat) (ob : Option Addr) (d : Bs) (V : List Value) (F : HP) : AS' [(fQu, cUnS ob m k p q d)] (hQh ob m k eR false) [] W fQh (A4' fQh 3) (tms 0 29 (aQh oa n c z (s + 1))) (oQh V) kWh [0, 2, 4, 5] F = VT.leaf (AX.normal,[v' (sl' oa n c),a',AV.slice 1102 0 (z + 1) 1 (Cp.lo (z + 1)),i' eR],29) [none,some (AO.any (frz fun x => True)),some (ce' (AV.rens (sgN (fun k => k) [1000] 1100) (rowV encB d)) 10),some (ce' [AV.slice 1100 0 p 1 (Cp.lo p)] 98),some (ce' (List.take (z * 1) (List.drop 0 (vmap V)) ++ [AV.slice 1100 0 p 1 (Cp.lo p)]) 98),none] 1103 (h33' s n c oa ob m k z V ((k32' s q eR).a k1')) := χ
def lQh (oa : Option Addr) (n c m : Nat) (O : AO) : List AV -> AP (AX × List AV) := mkL (fun tmps => match tmps.getD 4 .any with
 | .slice j _ _ _ _ => .ret [(1006, j)]
 | _ => .fail "row") (fun _ => True) nmF (fun _ => tms 0 29 (aQh oa n c 0 0)) (fun _ => [(1006, .cells [] tRb)]) (fun _ => .leaf .ret (tms 0 29 [(2, slW m)]) [(1006, O)])
theorem ZB' (W : World) (oa : Option Addr) (n c m : Nat) (O : AO) (F : HP) : wRun [] AV' [(fQh, 3, A4' fQh 3, lQh oa n c m O)] W fQh [slV oa n c] [] [1100, 1101, 1102] F = VT.leaf (AV.tuple [AV.slice 1101 0 m 1 (Cp.lo m),a']) [none,some (AO.ren (sgN (nmF [(1006,1100)]) [1006] 1101) O),none] 1102 ((p' ((fQh,3,A4' fQh 3,lQh oa n c m O).snd.snd.fst = (fQh,3,A4' fQh 3,lQh oa n c m O).snd.snd.fst)).a (k4'.a ((p' (VW (v' (sl' oa n c)::u'::e'::i' 0::AV.slice 1100 0 0 1 (Cp.ex 0)::i' 0::u'::u'::u'::AV.slice 1100 0 0 1 (Cp.ex 0)::ru16 (u'::u'::u'::[])) (v' (sl' oa n c)::a'::a'::a'::AV.slice 1100 0 0 1 (Cp.lo 0)::i' 0::ra16 (ra4 (a'::a'::a'::[]))))).a ((p' (OW (ce' (rep [e'] 0) 98) (ce' [] 98))).a k1')))) := χ
end
def rzL (V : List Value) : LH := [(0, .cells (vmap V) tRb), (1009, dumZ)]
def rzO (m : Nat) : AO := .own .nothing (exHP (fun V : List Value => V.length = m) rzL)
theorem st_rz {W0 w : World} {F : HP} {N : Names} {ys : List Value} {vs : List AV} {V : List Value} {d : Bs}
  (hs : St W0 F N [(1006, .cells (vmap V ++ [sB 1007 d.length]) tRb), (1009, dumZ), (1007, rB d)] vs ys w) (hv : ∀ V', AV.cls (fun n => Nat.blt n 1000 || (getO (oQh V') n).isSome) vs) : ∃ x : Value, St W0 F N (oQh (V ++ [x])) vs ys w := by
 obtain ⟨c, hc⟩ := RD' rfl hs 1006 1009 [1007] δ δ δ (a := vmap V) (b := [sB 1007 d.length]) (e := tRb) rfl rfl (fun N1 D w h => h.lt)
  (fun c C => ∃ x : Value, c = [x]) (fun N1 D hD yb hy => by
   obtain ⟨y, r0, q1, q2, rfl⟩ := hy; have q2 : r0 = [] := q2; subst q2
   exact ⟨[y], rfl, VRs.vmap _, y, rfl⟩)
 obtain ⟨⟨C0, x, rfl⟩, hc⟩ := hc; refine ⟨x, hc _ (fun _ => True) rfl ?_ rfl (fun C _ => trivial) (fun n o h1 h2 h3 => ?_) (hv _) (A0' (BM' _ _) (A0' Ye A2'))⟩
 ·show some (ce' (vmap (V ++ [x])) tRb) = _; rw [ET']
 ·simp only [oQh, getO, if_neg h1, if_neg h2] at h3; cases h3
theorem cUe_ok {ob : Option Addr} {m k e : Nat} (h : Tri Θ W fQu [slV ob m k] [] (.tuple [.any, .any, iv (o' e)]) []) (F : HP) (hF : AF' W F) : C1OK Θ F fQu (cUe ob m k e) :=
 AX' hF (fun _ => .tuple [.any, .any, iv (o' e)]) (fun _ => RO.ret _) (fun _ => rfl) (fun _ _ => h) fun _ => ⟨rfl, rfl, ⟨Ye, Ye⟩, A2', ⟨⟨Ye, Ye, Ye, Ye⟩, Ye⟩, A2'⟩
theorem cUq_ok {ob : Option Addr} {m k p q : Nat} {d : Bs} (h : Tri Θ W fQu [slV ob m k] [] (.tuple [sB 1000 p, iv (o' q), iv 0]) [(1000, rB d)]) (F : HP) (hF : AF' W F) : C1OK Θ F fQu (cUnS ob m k p q d) :=
 AX' hF (fun _ => .tuple [sB 1000 p, iv (o' q), iv 0]) (fun _ => RO.ret _) (fun _ => rfl) (fun _ _ => h) fun _ => ⟨rfl, rfl, ⟨Ye, Ye⟩, A2', ⟨⟨rfl, Ye, Ye, Ye⟩, Ye⟩, A0' (AB' _ _) A2'⟩
theorem QG' : ∀ q : List Rs, q.length * 8 <= endR q := by
 intro q
 induction q with
 | nil => exact Nat.zero_le _
 | cons y q ih =>
  rw [endR] at ih; rw [endR, List.map_cons, DB', la', B2', List.length_cons]; omega
theorem XA' (W : World) (oa : Option Addr) (c : Nat) (l : Bs) (h : BAt W.cell? oa l) (hc : l.length <= c) (hsz : l.length <= 1099511627776) :
  CTri Θ W (.loop (A4' fQh 3)) (tms 0 29 (aQh oa l.length c 0 0)) (oQh []) (fun _ : {V : List Value // V.length = (AA' l).length} => .ret) (fun q => tms 0 29 [(2, slW (AA' l).length)]) (fun q => oQh q.1) := by
 have hlb : l.length <= 140737488351232 := h.1; have key := SF' (W := W) (g := fQh) (b := A4' fQh 3) (σ := {z : List Value × List Rs // z.1.length = z.2.length /\ WS l z.2}) (ρ := {V : List Value // V.length = (AA' l).length}) 29 (fun z => aQh oa l.length c z.1.1.length (endR z.1.2)) (fun z => oQh z.1.1) (fun _ => .ret) (fun q => [(2, slW (AA' l).length)]) (fun q => oQh q.1) (fun _ h => by cases h) (fun z => l.length + 1 - endR z.1.2) kWh [0, 2, 4, 5] (fun _ => rfl) ?_ ⟨([], []), rfl, WS.zero l⟩
 ·exact key
 rintro ⟨⟨V, r⟩, hVr, hr⟩; simp only at hVr hr ⊢; have hle0 := hr.le; have hD := P5' h hc (endR r)
 have hDc : (l.drop (endR r)).length <= c - endR r := by rw [ld']; omega
 have hDl : (l.drop (endR r)).length = l.length - endR r := ld'; have h8 := QG' r
 cases hu : unwB (l.drop (endR r)) with
 | none =>
  obtain ⟨e, he, hT⟩ := WA' W _ _ _ hD hDc hu
  obtain ⟨eR, rfl⟩ : ∃ eR, e = eR + 1 := ⟨e - 1, by omega⟩
  have ene : (o' (eR + 1) != o' 0) = true := bne_iff_ne.2 fun q => by have := Int.ofNat.inj q; omega
  have hcon := fun F hF => cUe_ok hT F hF
  have hdone := hr.done hu
  have hlen : V.length = (AA' l).length := by rw [<- hdone, List.length_map, hVr]
  rw [<- hlen]
  cases hs : endR r with
  | zero =>
   rw [hs] at hcon; have ev : sl' oa l.length c = sl' (subA oa c 0) (l.drop 0).length (c - 0) := rfl
   refine ⟨[(fQu, cUe (subA oa c 0) (l.drop 0).length (c - 0) (eR + 1))], hQh (subA oa c 0) (l.drop 0).length (c - 0) 0 true, [], _, rfl, Goes.refl _ _, fun F hF => BA' (hcon F hF), fun _ _ => noL, fun F => ?_⟩
   refine Yj (ZF' W oa l.length c (l.drop 0).length (c - 0) eR V.length (subA oa c 0) V F) ⟨⟨?_, rfl, [(2, slW V.length)], oQh V, [(1006, 1006), (1009, 1009)], rfl, ⟨χ, by kernel_rfl, ⟨Ya, Ye⟩, ⟨_, rfl, OW.of_eq (by simp only [AO.ren, AW'])⟩, ⟨_, rfl, Yc⟩, Ye⟩, fun W0 F N ys w hst => .inr ⟨⟨V, rfl⟩, rfl, hst⟩⟩⟩
   simp only [ch', Nat.zero_le, true_and, and_true]; and_intros; all_goals first | (with_reducible exact Ye) | exact hc | (with_reducible exact wk_v ev) | exact wk_v ev | exact A3' ene | exact Yb | exact A3' rfl
  | succ s =>
   rw [hs] at hcon hle0 hDl; have hle : s + 1 <= l.length := hle0
   have ev : sl' (if c = s + 1 then oa else Option.map (fun x => Addr.mk x.block (x.off + (s + 1) * 1) none) oa) (l.length - (s + 1)) (c - (s + 1)) = sl' (subA oa c (s + 1)) (l.drop (s + 1)).length (c - (s + 1)) := by rw [ld']; rfl
   refine ⟨[(fQu, cUe (subA oa c (s + 1)) (l.drop (s + 1)).length (c - (s + 1)) (eR + 1))], hQh (subA oa c (s + 1)) (l.drop (s + 1)).length (c - (s + 1)) 0 true, [], _, rfl, Goes.refl _ _, fun F hF => BA' (hcon F hF), fun _ _ => noL, fun F => ?_⟩
   refine Yj (ZE' W oa l.length c (l.drop (s + 1)).length (c - (s + 1)) eR s V.length (subA oa c (s + 1)) V F) ⟨⟨?_, rfl, [(2, slW V.length)], oQh V, [(1006, 1006), (1009, 1009)], rfl, ⟨χ, by kernel_rfl, ⟨Ya, Ye⟩, ⟨_, rfl, OW.of_eq (by simp only [AO.ren, AW'])⟩, ⟨_, rfl, Yc⟩, Ye⟩, fun W0 F N ys w hst => .inr ⟨⟨V, rfl⟩, rfl, hst⟩⟩⟩
   exact Cw17'
 | some d =>
  have hul := GY' hu; rw [hDl] at hul; have hT := W9' W _ _ _ d hD hDc hu
  have hcon := fun F hF => cUq_ok hT F hF
  have k1 : (0 + V.length * 1).ble (vmap V).length = true := AP' (by rw [BF']; omega); have k2 : ((V.length + 1) * 24).ble 140737488355328 = true := AP' ω; have k3 : (V.length + 1).ble 9223372036854775807 = true := AP' ω
  have ktk : List.take (V.length * 1) (List.drop 0 (vmap V)) = vmap V := by rw [List.drop_zero, List.take_of_length_le (by rw [BF']; omega)]
  have k4 : (List.take (V.length * 1) (List.drop 0 (vmap V))).length.beq (V.length * 1) = true := by rw [ktk, BF', Nat.mul_one]; exact Nat.beq_refl _
  have hcl : ∀ e V', AV.cls (fun i => Nat.blt i 1000 || (getO (oQh V') i).isSome) (tms 0 29 (aQh oa l.length c (V.length + 1) e)) := fun e V' => H0' (A0' Ye (A0' rfl (A0' Ye A2')))
  have hfin : ∀ W0 F N ys w, St W0 F N [(1006, .cells (vmap V ++ [sB 1007 d.length]) tRb), (1009, dumZ), (1007, rB d)] (tms 0 29 (aQh oa l.length c (V.length + 1) (endR r + (8 + d.length)))) ys w -> ∃ s' : {z : List Value × List Rs // z.1.length = z.2.length /\ WS l z.2}, l.length + 1 - endR s'.1.2 < l.length + 1 - endR r /\ St W0 F N (oQh s'.1.1) (tms 0 29 (aQh oa l.length c s'.1.1.length (endR s'.1.2))) ys w := by
   intro W0 F N ys w hst; obtain ⟨x, hx⟩ := st_rz hst (hcl _)
   refine ⟨⟨(V ++ [x], r ++ [⟨d, none, 0⟩]), by simp [hVr], hr.next hu _ rfl⟩, by simp only; rw [DP']; omega, ?_⟩
   simp only; rw [DP', la']; exact hx
  cases hs : endR r with
  | zero =>
   rw [hs] at hcon hfin hul; have ev : sl' oa l.length c = sl' (subA oa c 0) (l.drop 0).length (c - 0) := rfl; have ew := NB' (a := 0) (b := 8 + d.length) ω
   refine ⟨[(fQu, cUnS (subA oa c 0) (l.drop 0).length (c - 0) d.length (8 + d.length) d)], hQh (subA oa c 0) (l.drop 0).length (c - 0) (0 + (8 + d.length)) false, [], _, rfl, Goes.refl _ _, fun F hF => BA' (hcon F hF), fun _ _ => noL, fun F => ?_⟩
   refine Yj (ZD' W oa l.length c (l.drop 0).length (c - 0) d.length (8 + d.length) (0 + (8 + d.length)) V.length (subA oa c 0) d V F) ⟨⟨?_, rfl, aQh oa l.length c (V.length + 1) (0 + (8 + d.length)), [(1006, .cells (vmap V ++ [sB 1007 d.length]) tRb), (1009, dumZ), (1007, rB d)], [(1006, 1102), (1009, 1009), (1007, 1100)], rfl, ⟨χ, by kernel_rfl, ⟨Ya, Ya, Ya, Ye⟩, ⟨_, rfl, by rw [ktk]; exact OW.of_eq (by simp only [AO.ren, CD', AW']; rfl)⟩, ⟨_, rfl, Yc⟩, ⟨_, rfl, by first | exact A5' (A1' _ _) rfl | exact A5' rfl rfl⟩, Ye⟩, fun W0 F N ys w hst => .inl ⟨rfl, hfin W0 F N ys w hst⟩⟩⟩
   simp only [ch', Nat.zero_le, k1, k2, k3, k4, true_and, and_true]; and_intros; all_goals first | (with_reducible exact Ye) | exact hc | exact Kw33'
  | succ s =>
   rw [hs] at hcon hle0 hDl hul hfin; have hle : s + 1 <= l.length := hle0
   have ev : sl' (if c = s + 1 then oa else Option.map (fun x => Addr.mk x.block (x.off + (s + 1) * 1) none) oa) (l.length - (s + 1)) (c - (s + 1)) = sl' (subA oa c (s + 1)) (l.drop (s + 1)).length (c - (s + 1)) := by rw [ld']; rfl
   have ew := NB' (a := s + 1) (b := 8 + d.length) ω
   refine ⟨[(fQu, cUnS (subA oa c (s + 1)) (l.drop (s + 1)).length (c - (s + 1)) d.length (8 + d.length) d)], hQh (subA oa c (s + 1)) (l.drop (s + 1)).length (c - (s + 1)) (s + 1 + (8 + d.length)) false, [], _, rfl, Goes.refl _ _, fun F hF => BA' (hcon F hF), fun _ _ => noL, fun F => ?_⟩
   refine Yj (ZC' W oa l.length c (l.drop (s + 1)).length (c - (s + 1)) d.length (8 + d.length) (s + 1 + (8 + d.length)) s V.length (subA oa c (s + 1)) d V F) ⟨⟨?_, rfl, aQh oa l.length c (V.length + 1) (s + 1 + (8 + d.length)), [(1006, .cells (vmap V ++ [sB 1007 d.length]) tRb), (1009, dumZ), (1007, rB d)], [(1006, 1102), (1009, 1009), (1007, 1100)], rfl, ⟨χ, by kernel_rfl, ⟨Ya, Ya, Ya, Ye⟩, ⟨_, rfl, by rw [ktk]; exact OW.of_eq (by simp only [AO.ren, CD', AW']; rfl)⟩, ⟨_, rfl, Yc⟩, ⟨_, rfl, by first | exact A5' (A1' _ _) rfl | exact A5' rfl rfl⟩, Ye⟩, fun W0 F N ys w hst => .inl ⟨rfl, hfin W0 F N ys w hst⟩⟩⟩
   simp only [ch', Nat.zero_le, k1, k2, k3, k4, true_and, and_true]; and_intros; all_goals first | (with_reducible exact Ye) | exact hc | exact hle | exact Kw33'
theorem qh_tri (W : World) (oa : Option Addr) (c : Nat) (l : Bs) (h : BAt W.cell? oa l) (hc : l.length <= c) (hsz : l.length <= 1099511627776) : Tri Θ W fQh [slV oa l.length c] [] (.tuple [.slice 1000 0 (AA' l).length 1 (.lo (AA' l).length), .any]) [(1000, rzO (AA' l).length)] := by
 have hpre : Goes (tms 0 29 (aQh oa l.length c 0 0)) [(1006, .cells [] tRb)] (tms 0 29 (aQh oa l.length c 0 0)) (oQh []) := CL' (k := 1009) (P := fun _ => True) (fun C => trivial) rfl rfl rfl δ rfl (fun n hn => by
  simp only [oQh, getO, if_neg hn]
  rfl)
 have hl := CTri.pre (XA' W oa c l h hc hsz) hpre
 have hl2 : CTri Θ W (.loop (A4' fQh 3)) (tms 0 29 (aQh oa l.length c 0 0)) [(1006, .cells [] tRb)] (fun _ : Unit => .ret) (fun _ => tms 0 29 [(2, slW (AA' l).length)]) (fun _ => [(1006, rzO (AA' l).length)]) := hl.post fun q => ⟨(), rfl, by
  refine Goes.trans ?_ (Goes.shutNew (R := fun V : List Value => V.length = (AA' l).length) (L := rzL) (m := .nothing) 1006 δ q.1 q.2 χ χ ⟨_, _, rfl, by kernel_rfl⟩ (H0' (A0' rfl A2')))
  have e2 : renL 1006 (rzL q.1) = oQh q.1 := by
   show [(1006, AO.ren _ (.cells (vmap q.1) tRb)), (1009, dumZ)] = _; simp only [AO.ren, AW']; rfl
  rw [e2]
  exact Goes.refl _ _⟩
 have hl3 : LTri Θ W (A4' fQh 3) (tms 0 29 (aQh oa l.length c 0 0)) [(1006, .cells [] tRb)] .ret (tms 0 29 [(2, slW (AA' l).length)]) [(1006, rzO (AA' l).length)] := fun W0 F N w a Q hF hN r ha hK => hl2 W0 F N w a Q hF hN r ha fun _ => hK
 have hL : ∀ F, AF' W F -> L1OK Θ F (A4' fQh 3) (lQh oa l.length c (AA' l).length (rzO (AA' l).length)) := fun F hF =>
  B7' hF (fun args => by split <;> first | exact RO.ret _ | exact RO.fail _) (fun _ _ => hl3) fun _ => by
   simp only [RT.pick]; exact AY' rfl rfl (A0' Ye (A0' rfl (A0' Ye A2'))) (A0' Ye A2') (A0' rfl A2') (A0' Ye A2')
 refine AJ' (con := []) (hints := AV') (lc := [(fQh, 3, A4' fQh 3, lQh oa l.length c (AA' l).length (rzO (AA' l).length))]) [1100, 1101, 1102] rfl (fun F _ => noC) (fun F hF => CK' (hL F hF)) fun F => ?_
 refine Yj (ZB' W oa l.length c (AA' l).length (rzO (AA' l).length) F) ⟨⟨?_, (AR' (vs' := [.tuple [.slice 1000 0 (AA' l).length 1 (.lo (AA' l).length), .any]]) (H' := [(1000, rzO (AA' l).length)]) [(1000, 1101)] χ χ (Yb) ⟨⟨_, rfl, Yc⟩, Ye⟩).fits χ⟩⟩
 simp only [ch', bl', true_and, and_true]; and_intros; all_goals first | (with_reducible exact Ye) | (with_reducible exact rfl) | exact rfl | exact Kw31'
noncomputable section
def cWs (n p e : Nat) (R s : Bs) : List AV -> Option (AP AV) := mkC nm0 (fun _ => True) nmW (fun _ => [sB 0 n]) (fun _ => [(0, rB R)]) (fun _ => .leaf .ret [.tuple [.slice 1000 0 1 1 (.lo 1), iv (o' e)]] [(0, rB R), (1000, .cells [sB 1001 p] tRb), (1001, rB s)])
def kNa : List Nat := [0, 1001, 1002, 1003, 1004, 1015, 1016, 1017, 1020, 1100, 1101, 1102, 1103, 1104, 1105]
def kNp : List Nat := kOp
def gNp (x8 x37 : Nat) (tmps : List AV) : AP (List (Nat × Nat)) := match tmps.getD 7 .any, tmps.getD x37 .any with
 | .ptr i 0, .slice j _ _ _ _ => .read 0 fun o => match o with
  | .cells [.map m, _, _, _] _ => .read m fun o => match o with
   | .map [(_, .ptr f 0, _)] _ => .read f fun o => match o with
    | .cells [.slice x _ _ _ _, .slice y _ _ _ _] _ => match tmps.getD x8 .any with
     | .slice q _ _ _ _ => .read q fun o => match o with
      | .cells [.slice r _ _ _ _] _ => .ret [(1001, m), (1002, f), (1003, x), (1004, y), (1020, i), (1015, j), (1016, q), (1017, r)]
      | _ => .fail "records"
     | _ => .ret [(1001, m), (1002, f), (1003, x), (1004, y), (1020, i), (1015, j)]
    | _ => .fail "file"
   | _ => .fail "files"
  | _ => .fail "disk"
 | _, _ => .fail "log"
def oNa1 (n e p : Nat) (R s : Bs) : LH := oEk n R ++ [(1015, .cells [sv nm2] tSt), (1016, .cells [sB 1017 p] tRb), (1017, rB s), (1020, lgO 2 (o' e))]
theorem a8' (W : World) (n p e : Nat) (R s : Bs) (F : HP) : AS' ((fWh, cWs n p e R s) :: (fCl, cClB n R) :: cG2) (AC' ([ht' fWo 6 0, hf' fWo 9 5, hf' fRd 2 1, ht' fWo 12 2, (fWo, 14, 0, hv (iv 1))] ++ hG2)) [] W fWo (A4' fWo 6) (tms 0 131 aOa0) (oPa0 n R) kNa [0, 7, 8, 37, 38, 39] F = VT.leaf (AX.normal,[pt' 0 0,pt' 1020 0,AV.slice 1101 0 1 1 (Cp.lo 1),AV.slice 1015 0 1 1 (Cp.lo 1),i' 1,i' 1],131) [some (ce' [AV.map 1001,e',i' 1099511627776,i' n] 142),some (AO.map [(s' nm2,pt' 1002 0,0)] 1),some (ce' [AV.slice 1003 0 n 1 (Cp.lo n),AV.slice 1004 0 n 1 (Cp.lo n)] 148),some (ce' (AV.rens (sgN (fun k => match k with | 0 => 1003 | k => k) [1000] 1100) (rowV encB R)) 10),some (ce' (rowV encB R) 10),some (ce' [s' nm2] 18),none,none,some (ce' [pt' 0 0,s' nmL,i' 2,i' e] 154),some (ce' (AV.rens (sgN (nmW 1100) [1000,1001] 1101) (rowV encB R)) 10),some (ce' [AV.slice 1102 0 p 1 (Cp.lo p)] 98),some (ce' (AV.rens (sgN (nmW 1100) [1000,1001] 1101) (rowV encB s)) 10),none,none,none] 1103 (h71' (h40' (((fe' true).a ((f' (findKey Tryz.prog (envW [(34,cWs n p e R s),(30,cClB n R),(52,cK2 gS2 [s' nm1,s' nmD] [s' nm2,s' nmD] (v' (Value.tuple (Array.mk [Value.string nmO,Value.bool true]))) (v' (Value.tuple (Array.mk [Value.string nmT,Value.bool true])))),(53,cK2 gS2 [s' nmO] [s' nmT] (v' (Value.tuple (Array.mk [vi' IntKind.i64 (o' 1),Value.nilIface]))) (v' (Value.tuple (Array.mk [vi' IntKind.i64 (o' 2),Value.nilIface])))),(56,cK2 gI2 [i' 1] [i' 2] (s' nmO) (s' nmT))] (AC' [(11,6,0,hv j'),(11,9,5,hv g'),(33,2,1,hv g'),(11,12,2,hv j'),(11,14,0,hv (i' 1)),(32,1,5,hv (s' nmD)),(32,3,1,hv g'),(32,3,4,hv g'),(32,3,8,hv g'),(32,3,12,hv g'),(32,3,19,hv g'),(37,1,4,hv (s' nmD)),(37,1,7,hv (s' nm2)),(32,3,20,hv g')]) [] W F) 9 (s' nm2) [(s' nm2,pt' 1002 0,0)] 0 = AP.ret (some (0,pt' 1002 0)))).a ((f' (Wk (b' false) g')).a ((fe' true).a (((cp' True).a ((vw' [AV.slice 1003 0 n 1 (Cp.lo n)]).a (f' (OW (ce' (rowV encB R) 10) (ce' (AV.rens (fun k => match k with | 0 => 1003 | k => k) (rowV encB R)) 10))))).a t'))))).a ((k70' 1100 n 1003 1000 R).a (h13' (k10'.a (k15'.a k1'))))))) := χ
theorem a7' (W : World) (n p e : Nat) (R s : Bs) (F : HP) : AS' [] (AC' [hf' fWo 6 0]) [] W fWo (A4' fWo 6) (tms 0 131 (aOa1 1)) (oNa1 n e p R s) kNa [0, 7, 8, 37, 38, 39] F = VT.leaf (AX.exit 0,[pt' 0 0,pt' 1020 0,AV.slice 1016 0 1 1 (Cp.lo 1),AV.slice 1015 0 1 1 (Cp.lo 1),i' 1,i' 1],131) [some (ce' [AV.map 1001,e',i' 1099511627776,i' n] 142),some (AO.map [(s' nm2,pt' 1002 0,0)] 1),some (ce' [AV.slice 1003 0 n 1 (Cp.lo n),AV.slice 1004 0 n 1 (Cp.lo n)] 148),some (ce' (rowV encB R) 10),some (ce' (rowV encB R) 10),some (ce' [s' nm2] 18),some (ce' [AV.slice 1017 0 p 1 (Cp.lo p)] 98),some (ce' (rowV encB s) 10),some (ce' [pt' 0 0,s' nmL,i' 2,i' e] 154),none,none,none,none,none,none] 1100 (k7'.a k1') := χ
theorem a6' (n p e : Nat) (R s : Bs) (F : HP) : AS' cG2 (AC' ([ht' fWo 16 0, ht' fWo 19 1, hf' fWo 19 8, hf' fWo 19 9, (fWo, 21, 0, hv (iv 1))] ++ hG2)) [] default fWo (A4' fWo 16) (tms 0 131 (aOb 1 0)) (oNa1 n e p R s) kNa [0, 7, 8, 77, 78, 79] F = VT.leaf (AX.normal,[pt' 0 0,pt' 1020 0,AV.slice 1016 0 1 1 (Cp.lo 1),AV.slice 1015 0 1 1 (Cp.lo 1),i' 1,i' 1],131) [some (ce' [AV.map 1001,e',i' 1099511627776,i' n] 142),some (AO.map [(s' nm2,pt' 1002 0,0)] 1),some (ce' [AV.slice 1003 0 n 1 (Cp.lo n),AV.slice 1004 0 n 1 (Cp.lo n)] 148),some (ce' (rowV encB R) 10),some (ce' (rowV encB R) 10),some (ce' [s' nm2] 18),some (ce' [AV.slice 1017 0 p 1 (Cp.lo p)] 98),some (ce' (rowV encB s) 10),some (ce' [pt' 0 0,s' nmL,i' 2,i' e] 154),none,none,none,none,none,none] 1100 (h71' (h73' (h72' (k15'.a k1')))) := χ
theorem a5' (n p e : Nat) (R s : Bs) (F : HP) : AS' [] (AC' [hf' fWo 16 0]) [] default fWo (A4' fWo 16) (tms 0 131 (aOb 1 1)) (oNa1 n e p R s) kNa [0, 7, 8, 77, 78, 79] F = VT.leaf (AX.exit 2,[pt' 0 0,pt' 1020 0,AV.slice 1016 0 1 1 (Cp.lo 1),AV.slice 1015 0 1 1 (Cp.lo 1),i' 1,i' 1],131) [some (ce' [AV.map 1001,e',i' 1099511627776,i' n] 142),some (AO.map [(s' nm2,pt' 1002 0,0)] 1),some (ce' [AV.slice 1003 0 n 1 (Cp.lo n),AV.slice 1004 0 n 1 (Cp.lo n)] 148),some (ce' (rowV encB R) 10),some (ce' (rowV encB R) 10),some (ce' [s' nm2] 18),some (ce' [AV.slice 1017 0 p 1 (Cp.lo p)] 98),some (ce' (rowV encB s) 10),some (ce' [pt' 0 0,s' nmL,i' 2,i' e] 154),none,none,none,none,none,none] 1100 (k7'.a k1') := χ
def lNa (n p e : Nat) (R s : Bs) : List AV -> AP (AX × List AV) := mkL (gNp 8 37) (fun _ => True) nmF (fun _ => tms 0 131 aOa0) (fun _ => oPa0 n R) (fun _ => .leaf (.exit 0) (tms 0 131 [(0, .ptr 0 0), (7, .ptr 1020 0), (8, slR 1)]) (oEk n R ++ [(1016, .cells [sB 1017 p] tRb), (1017, rB s), (1020, lgO 2 (o' e))]))
def lNb (n p e : Nat) (R s : Bs) : List AV -> AP (AX × List AV) := mkL (gNp 8 77) (fun _ => True) nmF (fun _ => tms 0 131 (aOb 1 0)) (fun _ => oNa1 n e p R s) (fun _ => .leaf (.exit 2) (tms 0 131 [(0, .ptr 0 0), (7, .ptr 1020 0), (8, slR 1)]) (oEk n R ++ [(1016, .cells [sB 1017 p] tRb), (1017, rB s), (1020, lgO 2 (o' e))]))
abbrev k116' (q0 q1 q2 q3 q4 q5 q6 q7 q8 q9 q10 : Nat) (q11 : Bs) (q12 q13 q14 q15 q16 q17 q18 : Nat) : Cnd := (p' (OW (ce' (AV.rens (sgN (nmF [(q0,q0),(q1,q1),(q2,q2),(q3,q3),(q4,q5),(q6,q7)]) [q0,q1,q2,q3,q8,q9,q4] q10) (rowV encB q11)) 10) (ce' (AV.rens (nmF [(q0,q10),(q1,q12),(q2,q13),(q3,q14),(q4,q15),(q6,q16),(q8,q17),(q9,q18)]) (rowV encB q11)) 10)))
theorem a3' (W : World) (n p e : Nat) (R D s : Bs) (F : HP) : wRun [(fGn, cGm), (fCt, cK [sv nmL, sv nmP] (bv false)), (fSo, cSo), (fIt, cK [iv 2] (sv nmT)), (fCl, cCl2 n e R D), (fDf, cDf)] (AC' [hf' fWo 1 2, hf' fWo 1 6, hf' fWo 1 11, ht' fWo 22 4, (fFl, 1, 4, hv (sv nmD)), (fFl, 1, 7, hv (sv nm2)), hf' fCu 2 1, hf' fCu 4 1, hf' fCu 4 9, hf' fCu 4 10, (fCu, 6, 10, hv (iv (o' (n - e)))), (fCu, 6, 11, hv (iv (o' e)))]) [(fWo, 6, A4' fWo 6, lNa n p e R s), (fWo, 16, A4' fWo 16, lNb n p e R s)] W fWo [.ptr 0 0, sv nmL] (oEk n R) kNp F = VT.leaf (AV.tuple [pt' 1118 0,AV.slice 1116 0 1 1 (Cp.lo 1),i' 0]) [some (ce' [AV.map 1112,e',i' 1099511627776,i' e] 142),none,none,none,none,none,some (ce' [AV.map 1001] 136),none,none,none,none,none,none,none,none,some (ce' [AV.map 1103] 136),none,some (AO.map [(s' nm2,pt' 1113 0,0)] 1),some (ce' [AV.slice 1114 0 e 1 (Cp.ex e),AV.slice 1119 0 e 1 (Cp.lo e)] 148),some (ce' (AV.rens (sgN (nmW 1114) [1000] 1119) (rowV encB R)) 10),some (ce' (AV.rens (sgN (nmF [(1001,1103),(1002,1104),(1003,1105),(1004,1106),(1020,1109),(1015,1111),(1016,1107),(1017,1108)]) [1001,1002,1003,1004,1016,1017,1020] 1112) (rowV encB R)) 10),some (ce' [AV.slice 1117 0 p 1 (Cp.lo p)] 98),some (ce' (AV.rens (sgN (nmF [(1001,1103),(1002,1104),(1003,1105),(1004,1106),(1020,1109),(1015,1111),(1016,1107),(1017,1108)]) [1001,1002,1003,1004,1016,1017,1020] 1112) (rowV encB s)) 10),some (ce' [pt' 0 0,s' nmL,i' 2,i' e] 154),some (ce' (AV.rens (sgN (nmW 1114) [1000] 1119) (rowV encB D)) 10),some (ce' [s' nm2] 18),none,none,none,none,none] 1121 (k82'.a (h42' ((p' ((fWo,6,A4' fWo 6,lNa n p e R s).snd.snd.fst = (fWo,6,A4' fWo 6,lNa n p e R s).snd.snd.fst)).a (k4'.a ((k81' 1100 1102).a (h78' 1001 n 1002 1003 1004 ((k80' R 1001 1002 1003 1004 1020 1100 1015 1102).a ((k80' R 1001 1002 1003 1004 1020 1100 1015 1102).a (k60'.a (k79'.a (k47'.a ((p' ((fWo,16,A4' fWo 16,lNb n p e R s).snd.snd.fst = (fWo,16,A4' fWo 16,lNb n p e R s).snd.snd.fst)).a (k4'.a ((p' (VW (pt' 0 0::ra4 (a'::a'::pt' 1109 0::AV.slice 1107 0 1 1 (Cp.lo 1)::ra16 (ra16 (ra16 (ra16 (a'::a'::a'::pt' 0 0::AV.slice 1111 0 1 1 (Cp.lo 1)::i' 1::i' 0::ra16 (ra16 (ra16 (a'::a'::a'::[]))))))))) (pt' 0 0::ra4 (a'::a'::pt' 1109 0::AV.slice 1107 0 1 1 (Cp.lo 1)::ra16 (ra16 (ra16 (ra16 (ra4 (AV.slice 1111 0 1 1 (Cp.lo 1)::i' 1::i' 0::ra16 (ra16 (ra16 (a'::a'::a'::[])))))))))))).a (h78' 1103 n 1104 1105 1106 ((k116' 1001 1002 1003 1004 1020 1100 1015 1102 1016 1017 1103 R 1104 1105 1106 1109 1111 1107 1108).a ((k116' 1001 1002 1003 1004 1020 1100 1015 1102 1016 1017 1103 R 1104 1105 1106 1109 1111 1107 1108).a (k60'.a ((ow' (ce' [AV.slice 1108 0 p 1 (Cp.lo p)] 98)).a ((k116' 1001 1002 1003 1004 1020 1100 1015 1102 1016 1017 1103 s 1104 1105 1106 1109 1111 1107 1108).a ((k77' e).a (k76'.a (h73' (k75'.a ((k74' e).a (((fe' true).a ((f' (findKey Tryz.prog (envW [(29,cGm),(31,cK [s' nmL,s' nmP] (b' false)),(49,cSo),(56,cK [i' 2] (s' nmT)),(30,cCl2 n e R D),(74,cDf)] (AC' [(11,1,2,hv g'),(11,1,6,hv g'),(11,1,11,hv g'),(11,22,4,hv j'),(37,1,4,hv (s' nmD)),(37,1,7,hv (s' nm2)),(36,2,1,hv g'),(36,4,1,hv g'),(36,4,9,hv g'),(36,4,10,hv g'),(36,6,10,hv (i' (n - e))),(36,6,11,hv (i' e))]) [(11,6,A4' 11 6,lNa n p e R s),(11,16,A4' 11 16,lNb n p e R s)] W F) 9 (s' nm2) [(s' nm2,pt' 1113 0,0)] 0 = AP.ret (some (0,pt' 1113 0)))).a ((f' (Wk (b' false) g')).a ((f' (Wk (b' false) g')).a ((fe' true).a ((wb' (decide (o' e > ↑n)) g').a ((f' (Wk g' g')).a ((ee' (i' n)).a ((fe' true).a ((f' (Wk (z' (IntKind.i64.wrap (↑n - o' e))) (i' (n - e)))).a ((f' (Wk (z' (IntKind.i64.wrap (o' n - o' (n - e)))) (i' e))).a ((fe' true).a ((fe' true).a ((tt'.a ((p' (e.ble e = true)).a (f' (e.ble n = true)))).a ((fe' true).a ((fe' true).a (((cp' True).a ((vw' [AV.slice 1114 0 e 1 (Cp.ex e)]).a (f' (OW (ce' (AV.rens (sgN (nmF [(1001,1103),(1002,1104),(1003,1105),(1004,1106),(1020,1109),(1015,1111),(1016,1107),(1017,1108)]) [1001,1002,1003,1004,1016,1017,1020] 1112) (rowV encB R)) 10) (ce' (AV.rens (nmW 1114) (rowV encB R)) 10))))).a ((fe' true).a (((fe' true).a (((cp' True).a (f' (VW [e',AV.func (Fn.func 75) [] [pt' 1120 0]] [e',a']))).a ((fe' true).a t'))).a t'))))))))))))))))))).a k1')))))))))))))))))))))))))) := χ
def oWs (p : Nat) (d : Bs) : LH := [(1006, .cells [sB 1007 p] tRb), (1009, .any (frz (PB []))), (1007, rB d)]
theorem XO' (W : World) (oa : Option Addr) (n c m k p q eR : Nat) (ob : Option Addr) (d : Bs) (O : AO) (P : Mem -> Prop) (F : HP) : AS' [(fUn, cUnS ob m k p q d)] (hWh ob m k eR false) [] W fWh (A4' fWh 1) (tms 0 26 (aWh oa n c nilS 0)) (oWh O P) [1006, 1009, 1007, 1100, 1101, 1102, 1103] [0, 2, 3] F = VT.leaf (AX.normal,[v' (sl' oa n c),AV.slice 1102 0 1 1 (Cp.lo 1),i' eR],26) [some O,some (AO.any (frz P)),none,some (ce' (AV.rens (sgN (fun k => k) [1000] 1100) (rowV encB d)) 10),some (ce' [AV.slice 1100 0 p 1 (Cp.lo p)] 98),some (ce' [AV.slice 1100 0 p 1 (Cp.lo p)] 98),none] 1103 (h31' n c oa ob m k ((k30' q eR).a k1')) := χ
theorem XP' (W : World) (oa : Option Addr) (n c m k e s p : Nat) (ob : Option Addr) (d : Bs) (F : HP) : AS' [(fUn, cUnE ob m k (e + 1))] (hWh ob m k 0 true) [] W fWh (A4' fWh 1) (tms 0 26 (aWh oa n c (slW 1) (s + 1))) (oWs p d) [1006, 1009, 1007, 1100, 1101, 1102, 1103] [0, 2, 3] F = VT.leaf (AX.ret,[v' (sl' oa n c),AV.slice 1006 0 1 1 (Cp.lo 1),i' (s + 1)],26) [some (ce' [AV.slice 1007 0 p 1 (Cp.lo p)] 98),some (AO.any (frz (PB []))),some (ce' (rowV encB d) 10),none,none,none,none] 1100 (h29' s n c oa ob m k k1') := χ
def lWs (oa : Option Addr) (n c e p : Nat) (d : Bs) : List AV -> AP (AX × List AV) := mkL (fun _ => .ret ()) (fun _ => True) (fun _ k => k) (fun _ => tms 0 26 (aWh oa n c nilS 0)) (fun _ => []) (fun _ => .leaf .ret (tms 0 26 [(2, slW 1), (3, iv (o' e))]) [(1006, .cells [sB 1007 p] tRb), (1007, rB d)])
theorem XM' (W : World) (oa : Option Addr) (n c e p : Nat) (d : Bs) (F : HP) : wRun [] AV' [(fWh, 1, A4' fWh 1, lWs oa n c e p d)] W fWh [slV oa n c] [] [1100, 1101, 1102, 1103] F = VT.leaf (AV.tuple [AV.slice 1100 0 1 1 (Cp.lo 1),i' e]) [some (ce' [AV.slice 1101 0 p 1 (Cp.lo p)] 98),some (ce' (AV.rens (sgN (fun k => k) [1006,1007] 1100) (rowV encB d)) 10),none,none] 1102 ((p' ((fWh,1,A4' fWh 1,lWs oa n c e p d).snd.snd.fst = (fWh,1,A4' fWh 1,lWs oa n c e p d).snd.snd.fst)).a (k4'.a ((k34' oa n c).a k1'))) := χ
end
theorem VH' (x8 x37 : Nat) : ∀ args, RO (gNp x8 x37 args) := fun args => by
 unfold gNp; split
 ·refine RO.read _ _ fun o => ?_
  split
  ·refine RO.read _ _ fun o => ?_
   split
   ·refine RO.read _ _ fun o => ?_
    split
    ·split
     ·refine RO.read _ _ fun o => ?_
      split <;> first | exact RO.ret _ | exact RO.fail _
     ·exact RO.ret _
    ·exact RO.fail _
   ·exact RO.fail _
  ·exact RO.fail _
 ·exact RO.fail _
theorem bE' (W : World) (n p e : Nat) (R s : Bs) (hW : ∀ F, AF' W F -> C1OK Θ F fWh (cWs n p e R s)) (hC : ∀ F, C1OK Θ F fCl (cClB n R)) :
  LTri Θ W (A4' fWo 6) (tms 0 131 aOa0) (oPa0 n R) (.exit 0) (tms 0 131 [(0, .ptr 0 0), (7, .ptr 1020 0), (8, slR 1)]) (oEk n R ++ [(1016, .cells [sB 1017 p] tRb), (1017, rB s), (1020, lgO 2 (o' e))]) := by
 refine AT' (W := W) (g := fWo) (b := A4' fWo 6) (σ := Bool) 131 (fun bb => match bb with | false => aOa0 | true => aOa1 1) (fun bb => match bb with | false => oPa0 n R | true => oNa1 n e p R s) (.exit 0) [(0, .ptr 0 0), (7, .ptr 1020 0), (8, slR 1)] (oEk n R ++ [(1016, .cells [sB 1017 p] tRb), (1017, rB s), (1020, lgO 2 (o' e))]) (fun bb => match bb with | false => 1 | true => 0) kNa [0, 7, 8, 37, 38, 39] (by intro h; cases h) (fun bb => by cases bb <;> rfl) rfl ?_ false; intro bb
 cases bb with
 | false =>
  refine ⟨(fWh, cWs n p e R s) :: (fCl, cClB n R) :: cG2, AC' ([ht' fWo 6 0, hf' fWo 9 5, hf' fRd 2 1, ht' fWo 12 2, (fWo, 14, 0, hv (iv 1))] ++ hG2), [], fun F hF => A7' (hW F hF) (A7' (hC F) (CT' F)), fun _ _ => noL, fun F => ?_⟩
  refine Yj (a8' W n p e R s F) ⟨⟨?_, rfl, .inl ⟨rfl, true, Nat.lt_succ_self 0, [(1001, 1001), (1002, 1002), (1003, 1003), (1004, 1004), (1015, 1015), (1016, 1101), (1017, 1102), (1020, 1020)], by kernel_rfl, by kernel_rfl, ⟨Ya, Ya, Ya, Ya, Ya, Ya, Ye⟩, ⟨_, rfl, Yc⟩, ⟨_, rfl, Yc⟩, ⟨_, rfl, Yc⟩, ⟨_, rfl, by first | exact A5' (A1' _ _) rfl | exact A5' rfl rfl⟩, ⟨_, rfl, by first | exact A5' (A1' _ _) rfl | exact A5' rfl rfl⟩, ⟨_, rfl, Yc⟩, ⟨_, rfl, Yc⟩, ⟨_, rfl, by first | exact A5' (A1' _ _) rfl | exact A5' rfl rfl⟩, ⟨_, rfl, Yc⟩, Ye⟩⟩⟩
  simp only [ch', true_and, and_true]; and_intros; all_goals first | (with_reducible exact Ye) | (with_reducible exact rfl) | (with_reducible exact Ya) | (with_reducible exact Yb) | exact A3' rfl | exact Ya | exact Yb | exact Kw19'
 | true =>
  refine ⟨[], AC' [hf' fWo 6 0], [], fun _ _ => noC, fun _ _ => noL, fun F => ?_⟩
  refine Yj (a7' W n p e R s F) ⟨⟨?_, rfl, .inr ⟨rfl, [(1001, 1001), (1002, 1002), (1003, 1003), (1004, 1004), (1016, 1016), (1017, 1017), (1020, 1020)], by kernel_rfl, by kernel_rfl, ⟨Ya, Ya, Ya, Ye⟩, ⟨_, rfl, Yc⟩, ⟨_, rfl, Yc⟩, ⟨_, rfl, Yc⟩, ⟨_, rfl, by first | exact A5' (A1' _ _) rfl | exact A5' rfl rfl⟩, ⟨_, rfl, by first | exact A5' (A1' _ _) rfl | exact A5' rfl rfl⟩, ⟨_, rfl, Yc⟩, ⟨_, rfl, by first | exact A5' (A1' _ _) rfl | exact A5' rfl rfl⟩, ⟨_, rfl, Yc⟩, Ye⟩⟩⟩
  simp only [ch', and_true]; exact A3' rfl
theorem bD' (n p e : Nat) (R s : Bs) :
  LTri Θ default (A4' fWo 16) (tms 0 131 (aOb 1 0)) (oNa1 n e p R s) (.exit 2) (tms 0 131 [(0, .ptr 0 0), (7, .ptr 1020 0), (8, slR 1)]) (oEk n R ++ [(1016, .cells [sB 1017 p] tRb), (1017, rB s), (1020, lgO 2 (o' e))]) := by
 refine AT' (W := default) (g := fWo) (b := A4' fWo 16) (σ := Bool) 131 (fun bb => match bb with | false => aOb 1 0 | true => aOb 1 1) (fun _ => oNa1 n e p R s) (.exit 2) [(0, .ptr 0 0), (7, .ptr 1020 0), (8, slR 1)] (oEk n R ++ [(1016, .cells [sB 1017 p] tRb), (1017, rB s), (1020, lgO 2 (o' e))]) (fun bb => match bb with | false => 1 | true => 0) kNa [0, 7, 8, 77, 78, 79] (by intro h; cases h) (fun bb => rfl) rfl ?_ false; intro bb
 cases bb with
 | false =>
  refine ⟨cG2, AC' ([ht' fWo 16 0, ht' fWo 19 1, hf' fWo 19 8, hf' fWo 19 9, (fWo, 21, 0, hv (iv 1))] ++ hG2), [], fun F hF => CT' F, fun _ _ => noL, fun F => ?_⟩
  refine Yj (a6' n p e R s F) ⟨⟨?_, rfl, .inl ⟨rfl, true, Nat.lt_succ_self 0, [(1001, 1001), (1002, 1002), (1003, 1003), (1004, 1004), (1015, 1015), (1016, 1016), (1017, 1017), (1020, 1020)], by kernel_rfl, by kernel_rfl, ⟨Ya, Ya, Ya, Ya, Ya, Ya, Ye⟩, ⟨_, rfl, Yc⟩, ⟨_, rfl, Yc⟩, ⟨_, rfl, Yc⟩, ⟨_, rfl, by first | exact A5' (A1' _ _) rfl | exact A5' rfl rfl⟩, ⟨_, rfl, by first | exact A5' (A1' _ _) rfl | exact A5' rfl rfl⟩, ⟨_, rfl, Yc⟩, ⟨_, rfl, Yc⟩, ⟨_, rfl, by first | exact A5' (A1' _ _) rfl | exact A5' rfl rfl⟩, ⟨_, rfl, Yc⟩, Ye⟩⟩⟩
  simp only [ch', true_and, and_true]; and_intros; all_goals exact Kw27'
 | true =>
  refine ⟨[], AC' [hf' fWo 16 0], [], fun _ _ => noC, fun _ _ => noL, fun F => ?_⟩
  refine Yj (a5' n p e R s F) ⟨⟨?_, rfl, .inr ⟨rfl, [(1001, 1001), (1002, 1002), (1003, 1003), (1004, 1004), (1016, 1016), (1017, 1017), (1020, 1020)], by kernel_rfl, by kernel_rfl, ⟨Ya, Ya, Ya, Ye⟩, ⟨_, rfl, Yc⟩, ⟨_, rfl, Yc⟩, ⟨_, rfl, Yc⟩, ⟨_, rfl, by first | exact A5' (A1' _ _) rfl | exact A5' rfl rfl⟩, ⟨_, rfl, by first | exact A5' (A1' _ _) rfl | exact A5' rfl rfl⟩, ⟨_, rfl, Yc⟩, ⟨_, rfl, by first | exact A5' (A1' _ _) rfl | exact A5' rfl rfl⟩, ⟨_, rfl, Yc⟩, Ye⟩⟩⟩
  simp only [ch', and_true]; exact A3' rfl
theorem lNa_ok (n p e : Nat) (R s : Bs) (hW : ∀ F, AF' W F -> C1OK Θ F fWh (cWs n p e R s)) (hC : ∀ F, C1OK Θ F fCl (cClB n R)) (F : HP) (hF : AF' W F) : L1OK Θ F (A4' fWo 6) (lNa n p e R s) :=
 B7' hF (VH' _ _) (fun _ _ => bE' W n p e R s hW hC) fun _ => by
  simp only [RT.pick]
  exact AY' rfl rfl (A0' rfl (A0' rfl (A0' Ye (A0' rfl (A0' Ye (A0' Ye A2'))))))
   (A0' ⟨rfl, Ye, Ye, Ye, Ye⟩ (A0' ⟨Ye, rfl, Ye⟩ (A0' ⟨rfl, rfl, Ye⟩ (A0' (AB' _ _) (A0' (AB' _ _) (A0' ⟨Ye, Ye⟩ (A0' ⟨rfl, Ye, Ye, Ye, Ye⟩ A2')))))))
   (A0' rfl (A0' rfl (A0' rfl A2')))
   (A0' ⟨rfl, Ye, Ye, Ye, Ye⟩ (A0' ⟨Ye, rfl, Ye⟩ (A0' ⟨rfl, rfl, Ye⟩ (A0' (AB' _ _) (A0' (AB' _ _) (A0' ⟨rfl, Ye⟩ (A0' (AB' _ _) (A0' ⟨rfl, Ye, Ye, Ye, Ye⟩ A2'))))))))
theorem lNb_ok {W : World} (n p e : Nat) (R s : Bs) (F : HP) : L1OK Θ F (A4' fWo 16) (lNb n p e R s) :=
 B7' (W := default) B8' (VH' _ _) (fun _ _ => bD' n p e R s) fun _ => by
  simp only [RT.pick]
  exact AY' rfl rfl (A0' rfl (A0' rfl (A0' rfl (A0' rfl (A0' Ye (A0' Ye A2'))))))
   (A0' ⟨rfl, Ye, Ye, Ye, Ye⟩ (A0' ⟨Ye, rfl, Ye⟩ (A0' ⟨rfl, rfl, Ye⟩ (A0' (AB' _ _) (A0' (AB' _ _) (A0' ⟨Ye, Ye⟩ (A0' ⟨rfl, Ye⟩ (A0' (AB' _ _) (A0' ⟨rfl, Ye, Ye, Ye, Ye⟩ A2')))))))))
   (A0' rfl (A0' rfl (A0' rfl A2')))
   (A0' ⟨rfl, Ye, Ye, Ye, Ye⟩ (A0' ⟨Ye, rfl, Ye⟩ (A0' ⟨rfl, rfl, Ye⟩ (A0' (AB' _ _) (A0' (AB' _ _) (A0' ⟨rfl, Ye⟩ (A0' (AB' _ _) (A0' ⟨rfl, Ye, Ye, Ye, Ye⟩ A2'))))))))
theorem np_run (W : World) (n p e : Nat) (R D s : Bs)(he : e <= n) (hz : n <= 2199023255552) (hW : ∀ F, AF' W F -> C1OK Θ F fWh (cWs n p e R s)) (hC : ∀ F, C1OK Θ F fCl (cClB n R)) (hC2 : ∀ F, AF' W F -> C1OK Θ F fCl (cCl2 n e R D)) :
  Tri Θ W fWo [.ptr 0 0, sv nmL] (oEk n R) (.tuple [.any, slR 1, iv 0]) (dGL ++ [(1016, .cells [sB 1017 p] tRb), (1017, rB s)]) := by
 have q1 := fun F hF => lNa_ok (W := W) n p e R s hW hC F hF
 have q2 := fun F => lNb_ok (W := W) n p e R s F
 have f1 : decide (o' e < o' 0) = false := decide_eq_false (by simp only [Z0]; omega); have f2 : decide (o' e > (n : Int)) = false := decide_eq_false (by simp only [Z0]; omega)
 have f3 : IntKind.i64.wrap ((n : Int) - o' e) = o' (n - e) := by
  rw [IntWalk.i64_in _ (by simp only [Z0]; omega)]; simp only [Z0]; omega
 have f4 : IntKind.i64.wrap (o' n - o' (n - e)) = o' e := by
  rw [IntWalk.i64_in _ (by simp only [Z0]; omega)]; simp only [Z0]; omega
 have f5 : e.ble n = true := AP' he; have f6 : e.ble e = true := AP' (Yd)
 refine AJ' (con := [(fGn, cGm), (fCt, cK [sv nmL, sv nmP] (bv false)), (fSo, cSo), (fIt, cK [iv 2] (sv nmT)), (fCl, cCl2 n e R D), (fDf, cDf)]) (hints := AC' [hf' fWo 1 2, hf' fWo 1 6, hf' fWo 1 11, ht' fWo 22 4, (fFl, 1, 4, hv (sv nmD)), (fFl, 1, 7, hv (sv nm2)), hf' fCu 2 1, hf' fCu 4 1, hf' fCu 4 9, hf' fCu 4 10, (fCu, 6, 10, hv (iv (o' (n - e)))), (fCu, 6, 11, hv (iv (o' e)))]) (lc := [(fWo, 6, A4' fWo 6, lNa n p e R s), (fWo, 16, A4' fWo 16, lNb n p e R s)]) kNp χ (fun F hF => A7' (EA' F) (A7' (DQ' (KK' _) (fun K => ⟨Ye, Ye, Ye⟩) (fun K => trivial) F) (A7' (HH' F) (A7' (DQ' (HV' _) (fun K => ⟨Ye, Ye⟩) (fun K => trivial) F) (A7' (hC2 F hF) (BA' (GF' F))))))) (fun F hF x hx => by
  rcases List.mem_cons.1 hx with rfl | hx
  ·exact q1 F hF
  ·obtain rfl := List.mem_singleton.1 hx
   exact q2 F) fun F => ?_
 refine Yj (a3' W n p e R D s F) ⟨⟨?_, (AR' (vs' := [.tuple [.any, slR 1, iv 0]]) (H' := [(0, .cells [.map 1001, .any, .any, .any] tDk), (1001, .map [(sv nm2, .any, 0)] 1), (1016, .cells [sB 1017 p] tRb), (1017, rB s)]) [(1001, 1112), (1016, 1116), (1017, 1117)] χ χ (VW.cons (I8' (VW.cons (Wk.any _) (Yb))) (Yb)) ⟨⟨_, rfl, by exact MB' rfl (VW.cons Ya (VW.cons (Wk.any _) (VW.cons (Wk.any _) (VW.cons (Wk.any _) VW.nil))))⟩, ⟨_, rfl, by exact ow_e1 _ _ _ _⟩, ⟨_, rfl, Yc⟩, ⟨_, rfl, by first | exact A5' (A1' _ _) rfl | exact A5' rfl rfl⟩, Ye⟩).fits χ⟩⟩
 clear q1 q2 hW hC hC2
 simp only [ch', true_and, and_true, f5, f6]; and_intros; all_goals exact Kw14'
structure OneR (R d : Bs) : Prop where
 hu : unwB R = some d
 hl : R.length = 8 + d.length
 hs : R.length <= 1099511627776
theorem OneR.mk' {d : Bs} (hd : d.length <= most) : OneR (AH' d) d := by
 have h := KR' hd []; rw [List.append_nil] at h; have : d.length <= 1048576 := hd
 exact ⟨h, B2' d, by rw [B2']; omega⟩
theorem OneR.rest {R d : Bs} (K : OneR R d) : unwB (R.drop (8 + d.length)) = none := by
 rw [List.drop_eq_nil_of_le (by rw [K.hl]; exact Yd)]; rfl
theorem W1' (W : World) (hN : LN W) (oa : Option Addr) (c : Nat) (R d : Bs) (h : BAt W.cell? oa R) (hc : R.length <= c) (K : OneR R d) (hp : d ≠ []) :
  LTri Θ W (A4' fWh 1) (tms 0 26 (aWh oa R.length c nilS 0)) (oWh dumZ (PB [])) .ret (tms 0 26 [(2, slW 1), (3, iv (o' (8 + d.length)))]) [(1006, .cells [sB 1007 d.length] tRb), (1007, rB d)] := by
 have hl := K.hl; have hs := K.hs; refine AT' (W := W) (g := fWh) (b := A4' fWh 1) (σ := Bool) 26 (fun x => match x with | false => aWh oa R.length c nilS 0 | true => aWh oa R.length c (slW 1) (7 + d.length + 1)) (fun x => match x with | false => oWh dumZ (PB []) | true => oWs d.length d) .ret [(2, slW 1), (3, iv (o' (8 + d.length)))] [(1006, .cells [sB 1007 d.length] tRb), (1007, rB d)] (fun x => match x with | false => 1 | true => 0) [1006, 1009, 1007, 1100, 1101, 1102, 1103] [0, 2, 3] (by intro h; cases h) (fun x => by cases x <;> rfl) rfl ?_ false; intro x
 cases x with
 | false =>
  have hT := R6' W hN oa c R d h hc K.hu hp
  have hcon := fun F hF => SM' hT F hF
  have ew := NB' (a := 0) (b := 8 + d.length) ω
  have e7 : 0 + (8 + d.length) = 7 + d.length + 1 := ω
  refine ⟨[(fUn, cUnS oa R.length c d.length (8 + d.length) d)], hWh oa R.length c (0 + (8 + d.length)) false, [], fun F hF => BA' (hcon F hF), fun _ _ => noL, fun F => ?_⟩
  refine Yj (XO' W oa R.length c R.length c d.length (8 + d.length) (0 + (8 + d.length)) oa d dumZ (PB []) F) ⟨⟨?_, rfl, .inl ⟨rfl, true, Nat.lt_succ_self 0, [(1006, 1102), (1009, 1009), (1007, 1100)], by kernel_rfl, by kernel_rfl, ⟨Ya, Ya, by rw [e7]; exact Ya, Ye⟩, ⟨_, rfl, Yc⟩, ⟨_, rfl, Yc⟩, ⟨_, rfl, by first | exact A5' (A1' _ _) rfl | exact A5' rfl rfl⟩, Ye⟩⟩⟩
  exact Cw18'
 | true =>
  have hD := P5' h hc (7 + d.length + 1)
  have hDc : (R.drop (7 + d.length + 1)).length <= c - (7 + d.length + 1) := by rw [ld']; omega
  have hu : unwB (R.drop (7 + d.length + 1)) = none := by rw [show 7 + d.length + 1 = 8 + d.length by omega]; exact K.rest
  obtain ⟨e, he, hT⟩ := NO' W hN _ _ _ hD hDc hu
  obtain ⟨eR, rfl⟩ : ∃ eR, e = eR + 1 := ⟨e - 1, by omega⟩
  have ene : (o' (eR + 1) != o' 0) = true := bne_iff_ne.2 fun q => by have := Int.ofNat.inj q; omega
  have hcon := fun F hF => OF' hT F hF
  have hle : 7 + d.length + 1 <= R.length := ω
  have ev : sl' (if c = 7 + d.length + 1 then oa else Option.map (fun x => Addr.mk x.block (x.off + (7 + d.length + 1) * 1) none) oa) (R.length - (7 + d.length + 1)) (c - (7 + d.length + 1)) = sl' (subA oa c (7 + d.length + 1)) (R.drop (7 + d.length + 1)).length (c - (7 + d.length + 1)) := by rw [ld']; rfl
  have e8 : 7 + d.length + 1 = 8 + d.length := ω
  refine ⟨[(fUn, cUnE (subA oa c (7 + d.length + 1)) (R.drop (7 + d.length + 1)).length (c - (7 + d.length + 1)) (eR + 1))], hWh (subA oa c (7 + d.length + 1)) (R.drop (7 + d.length + 1)).length (c - (7 + d.length + 1)) 0 true, [], fun F hF => BA' (hcon F hF), fun _ _ => noL, fun F => ?_⟩
  refine Yj (XP' W oa R.length c (R.drop (7 + d.length + 1)).length (c - (7 + d.length + 1)) eR (7 + d.length) d.length (subA oa c (7 + d.length + 1)) d F) ⟨⟨?_, rfl, .inr ⟨rfl, [(1006, 1006), (1007, 1007)], by kernel_rfl, by kernel_rfl, ⟨Ya, by rw [<- e8]; exact Ya, Ye⟩, ⟨_, rfl, Yc⟩, ⟨_, rfl, by first | exact A5' (A1' _ _) rfl | exact A5' rfl rfl⟩, Ye⟩⟩⟩
  exact Cw17'
theorem ws_tri (W : World) (hN : LN W) (oa : Option Addr) (c : Nat) (R d : Bs) (h : BAt W.cell? oa R) (hc : R.length <= c) (K : OneR R d) (hp : d ≠ []) : Tri Θ W fWh [slV oa R.length c] [] (.tuple [.slice 1000 0 1 1 (.lo 1), iv (o' (8 + d.length))]) [(1000, .cells [sB 1001 d.length] tRb), (1001, rB d)] := by
 have hl := LTri.pre (QZ' (vs := tms 0 26 (aWh oa R.length c nilS 0))) (W1' W hN oa c R d h hc K hp)
 have hL : ∀ F, AF' W F -> L1OK Θ F (A4' fWh 1) (lWs oa R.length c (8 + d.length) d.length d) := fun F hF =>
  B7' hF (fun _ => RO.ret _) (fun _ _ => hl) fun _ => by
   simp only [RT.pick]; exact AY' rfl rfl (A0' Ye (A0' Ye (A0' Ye A2'))) A2' (A0' rfl (A0' Ye A2')) (A0' ⟨rfl, Ye⟩ (A0' (AB' _ _) A2'))
 refine AJ' (con := []) (hints := AV') (lc := [(fWh, 1, A4' fWh 1, lWs oa R.length c (8 + d.length) d.length d)]) [1100, 1101, 1102, 1103] rfl (fun F _ => noC) (fun F hF => CK' (hL F hF)) fun F => ?_
 refine Yj (XM' W oa R.length c (8 + d.length) d.length d F) ⟨⟨?_, (AR' (vs' := [.tuple [.slice 1000 0 1 1 (.lo 1), iv (o' (8 + d.length))]]) (H' := [(1000, .cells [sB 1001 d.length] tRb), (1001, rB d)]) [(1000, 1100), (1001, 1101)] χ χ (Yb) ⟨⟨_, rfl, Yc⟩, ⟨_, rfl, by first | exact A5' (A1' _ _) rfl | exact A5' rfl rfl⟩, Ye⟩).fits χ⟩⟩
 exact Cw8'
theorem cWs_ok (hN : LN W) {R d : Bs} (K : OneR R d) (hp : d ≠ []) (F : HP) (hF : AF' W F) : C1OK Θ F fWh (cWs R.length d.length (8 + d.length) R d) := by
 have hl := K.hl; have hs := K.hs
 exact AX' hF (fun _ => .tuple [.slice 1000 0 1 1 (.lo 1), iv (o' (8 + d.length))]) IA' (fun _ => rfl) (fun _ _ => K9' W hN (pre := []) (H' := [(1000, .cells [sB 1001 d.length] tRb), (1001, rB d)]) (by show _ <= 140737488351232; omega) ω rfl (fun i o h => by
  simp only [getO] at h ⊢
  by_cases e : i = 1000
  ·subst e; exact ⟨δ, by simp⟩
  ·rw [if_neg e] at h
   by_cases e : i = 1001
   ·subst e; exact ⟨δ, by simp⟩
   ·rw [if_neg e] at h; cases h) fun W' hN' oa c h hc => ws_tri W' hN' oa c R d h hc K hp) fun _ => ⟨rfl, rfl, ⟨rfl, Ye⟩, A0' (AB' _ _) A2', ⟨⟨rfl, Ye, Ye⟩, Ye⟩, A0' (AB' _ _) (A0' ⟨rfl, Ye⟩ (A0' (AB' _ _) A2'))⟩
theorem W3' (W : World) (hN : LN W) (oa : Option Addr) (c : Nat) (R : Bs) (h : BAt W.cell? oa R) (hc : R.length <= c) (K : OneR R []) :
  LTri Θ W (A4' fWh 1) (tms 0 26 (aWh oa R.length c nilS 0)) (oWh dumZ (PB [])) .ret (tms 0 26 [(2, slW 1), (3, iv (o' 8))]) [(1006, .cells [nilS] tRb)] := by
 have hl := K.hl; have hs := K.hs; have hl8 : R.length = 8 := hl; refine AT' (W := W) (g := fWh) (b := A4' fWh 1) (σ := Bool) 26 (fun x => match x with | false => aWh oa R.length c nilS 0 | true => aWh oa R.length c (slW 1) (7 + 1)) (fun x => match x with | false => oWh dumZ (PB []) | true => oWh (.cells (vmap [.slice none 0 0]) tRb) (PB [])) .ret [(2, slW 1), (3, iv (o' 8))] [(1006, .cells [nilS] tRb)] (fun x => match x with | false => 1 | true => 0) kWh [0, 2, 3] (by intro h; cases h) (fun x => by cases x <;> rfl) rfl ?_ false; intro x
 cases x with
 | false =>
  have hT := V0' W hN oa c R h hc K.hu
  have hcon := fun F hF => SL' hT F hF
  have ew := NB' (a := 0) (b := 8) δ
  refine ⟨[(fUn, cUnZ oa R.length c)], hWh oa R.length c (0 + 8) false, [], fun F hF => BA' (hcon F hF), fun _ _ => noL, fun F => ?_⟩
  refine Yj (PG' W oa R.length c R.length c (0 + 8) oa dumZ (PB []) F) ⟨⟨?_, rfl, .inl ⟨rfl, true, Nat.lt_succ_self 0, [(1006, 1101), (1009, 1009)], by kernel_rfl, by kernel_rfl, ⟨Ya, Ya, Ya, Ye⟩, ⟨_, rfl, Yc⟩, ⟨_, rfl, Yc⟩, Ye⟩⟩⟩
  exact Cw18'
 | true =>
  have hD := P5' h hc (7 + 1)
  have hDc : (R.drop (7 + 1)).length <= c - (7 + 1) := by rw [ld']; omega
  have hu : unwB (R.drop (7 + 1)) = none := K.rest; obtain ⟨e, he, hT⟩ := NO' W hN _ _ _ hD hDc hu
  obtain ⟨eR, rfl⟩ : ∃ eR, e = eR + 1 := ⟨e - 1, by omega⟩
  have ene : (o' (eR + 1) != o' 0) = true := bne_iff_ne.2 fun q => by have := Int.ofNat.inj q; omega
  have hcon := fun F hF => OF' hT F hF
  have hle : 7 + 1 <= R.length := ω
  have ev : sl' (if c = 7 + 1 then oa else Option.map (fun x => Addr.mk x.block (x.off + (7 + 1) * 1) none) oa) (R.length - (7 + 1)) (c - (7 + 1)) = sl' (subA oa c (7 + 1)) (R.drop (7 + 1)).length (c - (7 + 1)) := by rw [ld']; rfl
  refine ⟨[(fUn, cUnE (subA oa c (7 + 1)) (R.drop (7 + 1)).length (c - (7 + 1)) (eR + 1))], hWh (subA oa c (7 + 1)) (R.drop (7 + 1)).length (c - (7 + 1)) 0 true, [], fun F hF => BA' (hcon F hF), fun _ _ => noL, fun F => ?_⟩
  refine Yj (PH' W oa R.length c (R.drop (7 + 1)).length (c - (7 + 1)) eR 7 1 (subA oa c (7 + 1)) [.slice none 0 0] (PB []) F) ⟨⟨?_, rfl, .inr ⟨rfl, [(1006, 1006)], by kernel_rfl, by kernel_rfl, ⟨Ya, Ya, Ye⟩, ⟨_, rfl, Yc⟩, Ye⟩⟩⟩
  exact Cw17'
theorem wn_tri (W : World) (hN : LN W) (oa : Option Addr) (c : Nat) (R : Bs) (h : BAt W.cell? oa R) (hc : R.length <= c) (K : OneR R []) : Tri Θ W fWh [slV oa R.length c] [] (.tuple [.slice 1000 0 1 1 (.lo 1), iv (o' 8)]) [(1000, .cells [nilS] tRb)] := by
 have hl := LTri.pre (QZ' (vs := tms 0 26 (aWh oa R.length c nilS 0))) (W3' W hN oa c R h hc K)
 have hL : ∀ F, AF' W F -> L1OK Θ F (A4' fWh 1) (lWh oa R.length c 8 (slW 1) [(1006, .cells [nilS] tRb)]) := fun F hF =>
  B7' hF (fun _ => RO.ret _) (fun _ _ => hl) fun _ => by
   simp only [RT.pick]; exact AY' rfl rfl (A0' Ye (A0' Ye (A0' Ye A2'))) A2' (A0' rfl (A0' Ye A2')) (A0' ⟨Ye, Ye⟩ A2')
 refine AJ' (con := []) (hints := AV') (lc := [(fWh, 1, A4' fWh 1, lWh oa R.length c 8 (slW 1) [(1006, .cells [nilS] tRb)])]) [1100, 1101, 1102] rfl (fun F _ => noC) (fun F hF => CK' (hL F hF)) fun F => ?_
 refine Yj (RT' W oa R.length c 8 1 (.cells [nilS] tRb) F) ⟨⟨?_, (AR' (vs' := [.tuple [.slice 1000 0 1 1 (.lo 1), iv (o' 8)]]) (H' := [(1000, .cells [nilS] tRb)]) [(1000, 1100)] χ χ (Yb) ⟨⟨_, rfl, Yc⟩, Ye⟩).fits χ⟩⟩; exact Cw8'
theorem cWn_ok (hN : LN W) {R : Bs} (K : OneR R []) (F : HP) (hF : AF' W F) : C1OK Θ F fWh (cWh R.length 1 8 R (.cells [nilS] tRb)) := by
 have hl := K.hl; have hs := K.hs
 exact AX' hF (fun _ => .tuple [.slice 1000 0 1 1 (.lo 1), iv (o' 8)]) IA' (fun _ => rfl) (fun _ _ => K9' W hN (pre := []) (H' := [(1000, .cells [nilS] tRb)]) (by show _ <= 140737488351232; omega) (by rw [hl]; omega) rfl (fun i o h => by
  simp only [getO] at h ⊢
  by_cases e : i = 1000
  ·subst e; exact ⟨δ, by simp⟩
  ·rw [if_neg e] at h; cases h) fun W' hN' oa c h hc => wn_tri W' hN' oa c R h hc K) fun _ => ⟨rfl, rfl, ⟨rfl, Ye⟩, A0' (AB' _ _) A2', ⟨⟨rfl, Ye, Ye⟩, Ye⟩, A0' (AB' _ _) (A0' ⟨Ye, Ye⟩ A2')⟩
theorem wo_s (W : World) (hN : LN W) (R d : Bs) (K : OneR R d) (hp : d ≠ []) : Tri Θ W fWo [.ptr 0 0, sv nmL] [(0, dT R)] (.tuple [.any, slR 1, iv 0]) [(0, dG), (1016, .cells [sB 1017 d.length] tRb), (1017, rB d)] := by
 have hl := K.hl; have hs := K.hs
 have hb : R.length <= big := by show _ <= 140737488351232; omega
 refine V6' ?_; refine Tri.post (np_run W R.length d.length (8 + d.length) R (R.take (8 + d.length)) d ω ω (fun F hF => cWs_ok hN K hp F hF) (fun F => BP' hb ω F) (fun F hF => JK' hb ω ω F hF)) ?_
 exact Goes.shut (R := fun _ : Unit => True) (L := fun _ => dGL) (H0 := [(1016, .cells [sB 1017 d.length] tRb), (1017, rB d)]) () trivial χ ⟨_, _, rfl, by kernel_rfl⟩ ⟨⟨Ye, rfl, Ye, Ye⟩, Ye⟩ (A0' ⟨rfl, Ye⟩ (A0' (AB' _ _) A2'))
theorem wo_n (W : World) (hN : LN W) (R : Bs) (K : OneR R []) : Tri Θ W fWo [.ptr 0 0, sv nmL] [(0, dT R)] (.tuple [.any, slR 1, iv 0]) [(0, dG), (1016, .cells [nilS] tRb)] := by
 have hl := K.hl; have hl8 : R.length = 8 := hl
 have hb : R.length <= big := by show _ <= 140737488351232; omega
 refine V6' ?_; refine Tri.post (pp_run W R.length 1 8 R (R.take 8) (.cells [nilS] tRb) δ ω ω (fun σ => rfl) (fun K => ⟨Ye, Ye⟩) (fun F hF => cWn_ok hN K F hF) (fun F => BP' hb ω F) (fun F hF => JK' hb ω ω F hF)) ?_
 exact Goes.shut (R := fun _ : Unit => True) (L := fun _ => dGL) (H0 := [(1016, .cells [nilS] tRb)]) () trivial χ ⟨_, _, rfl, by kernel_rfl⟩ ⟨⟨Ye, rfl, Ye, Ye⟩, Ye⟩ (A0' ⟨Ye, Ye⟩ A2')
noncomputable section
abbrev fRnw : Nat := 5
def b1 (o1 o2 : Option Addr) (n1 c1 n2 c2 k i : Nat) : List (Nat × AV) := [(0, slV o1 n1 c1), (1, slV o2 n2 c2), (5, .ptr 1053 0), (7, .ptr 1050 0), (9, .ptr 1051 0), (10, slA k), (50, slV o1 n1 c1), (51, iv (o' n1)), (52, iv (o' i))]
def ixB : List Nat := [0, 1, 5, 7, 9, 10, 50, 51, 52]
def hB1 (oa : Option Addr) (n c i : Nat) : BD' := AC' [ht' fRnw 10 0, (fRnw, 11, 1, hv (slV oa n c)), hf' fRnw 12 4, (fRnw, 15, 0, hv (iv (o' (i + 1))))]
abbrev k117' (q0 : World) (q1 : Addr) (q2 : Nat) (q3 : Option Addr) (q4 q5 : Nat) : Cnd := ((p' ((q0.cell? (q1.add (q2 * 1))).isSome = true)).a (f' (Wk (v' ((q0.cell? (q1.add (q2 * 1))).getD (Value.tuple (Array.mk [])))) (v' (sl' q3 q4 q5)))))
theorem b9' (W : World) (sz sz' tr : Int) (o1 : Addr) (o2 ok oa : Option Addr) (n1 c1 n2 c2 k i nk ck n c : Nat) (V : List Value) (D D' : AO) (F : HP) : AS' [(fCn, cCnM oa n c), (fAp, cApM sz sz' D D')] (hB1 oa n c i) [] W fRnw (A4' fRnw 10) (tms 0 152 (b1 (some o1) o2 n1 c1 n2 c2 k i)) (oLk D sz tr V ok nk ck) kLk ixB F = VT.leaf (AX.normal,[v' (sl' (some o1) n1 c1),v' (sl' o2 n2 c2),pt' 1053 0,pt' 1050 0,pt' 1051 0,AV.slice 1101 0 (k + 1) 1 (Cp.lo (k + 1)),v' (sl' (some o1) n1 c1),i' n1,i' (i + 1)],152) [some (AO.ren (sgN (nmA (1050,1051,0)) [] 0) D'),some (ce' [pt' 1050 0,s' nmL,i' 1,z' sz'] 154),none,some (ce' [v' (sl' ok nk ck),z' tr] 94),some (ce' [v' (sl' oa n c)] 98),some (ce' (List.take (k * 1) (List.drop 0 (vmap V)) ++ [v' (sl' oa n c)]) 98),none,none,none,none,none] 1102 ((k3' i n1).a ((f' (i.blt n1 = true)).a ((k117' W o1 i oa n c).a (((cp' True).a (f' (VW [v' (sl' oa n c)] [v' (sl' oa n c)]))).a (((cp' True).a ((vw' [pt' 1051 0,AV.mt]).a ((p' (OW D (AO.ren (nmA (1050,1051,0)) D))).a (f' (OW (ce' [pt' 1050 0,s' nmL,i' 1,z' sz] 154) (ce' [pt' 1050 0,s' nmL,i' 1,z' sz] 154)))))).a (k7'.a ((k115' k V).a ((k2' i).a k1')))))))) := χ
theorem b8' (W : World) (sz sz' tr : Int) (o1 : Addr) (o2 ok oa : Option Addr) (n1 c1 n2 c2 k i nk ck n c : Nat) (r : Bs) (V : List Value) (D D' : AO) (F : HP) : AS' [(fCn, cCnO oa n c r), (fAp, cApO sz sz' n r D D')] (hB1 oa n c i) [] W fRnw (A4' fRnw 10) (tms 0 152 (b1 (some o1) o2 n1 c1 n2 c2 k i)) (oLk D sz tr V ok nk ck) kLk ixB F = VT.leaf (AX.normal,[v' (sl' (some o1) n1 c1),v' (sl' o2 n2 c2),pt' 1053 0,pt' 1050 0,pt' 1051 0,AV.slice 1102 0 (k + 1) 1 (Cp.lo (k + 1)),v' (sl' (some o1) n1 c1),i' n1,i' (i + 1)],152) [some (AO.ren (sgN (nmA (1050,1051,1100)) [] 0) D'),some (ce' [pt' 1050 0,s' nmL,i' 1,z' sz'] 154),none,some (ce' [v' (sl' ok nk ck),z' tr] 94),some (ce' (AV.rens (sgN (nmA (1050,1051,1100)) [] 0) (rowV encB r)) 10),some (ce' [v' (sl' oa n c)] 98),some (ce' (List.take (k * 1) (List.drop 0 (vmap V)) ++ [v' (sl' oa n c)]) 98),none,none,none,none] 1103 ((k3' i n1).a ((f' (i.blt n1 = true)).a ((k117' W o1 i oa n c).a (((cp' True).a (f' (VW [v' (sl' oa n c)] [v' (sl' oa n c)]))).a (((cp' True).a ((vw' [pt' 1051 0,AV.slice 1100 0 n 1 (Cp.lo n)]).a ((p' (OW D (AO.ren (nmA (1050,1051,1100)) D))).a ((ow' (ce' [pt' 1050 0,s' nmL,i' 1,z' sz] 154)).a (f' (OW (ce' (AV.rens (sgN (fun k => k) [1000] 1100) (rowV encB r)) 10) (ce' (AV.rens (nmA (1050,1051,1100)) (rowV encB r)) 10))))))).a (k7'.a ((k115' k V).a ((k2' i).a k1')))))))) := χ
theorem bA' (W : World) (sz tr : Int) (o1 o2 ok : Option Addr) (n1 c1 n2 c2 k i nk ck : Nat) (V : List Value) (D : AO) (F : HP) : AS' [] (AC' [hf' fRnw 10 0]) [] W fRnw (A4' fRnw 10) (tms 0 152 (b1 o1 o2 n1 c1 n2 c2 k i)) (oLk D sz tr V ok nk ck) kLk ixB F = VT.leaf (AX.exit 0,[v' (sl' o1 n1 c1),v' (sl' o2 n2 c2),pt' 1053 0,pt' 1050 0,pt' 1051 0,AV.slice 1052 0 k 1 (Cp.lo k),v' (sl' o1 n1 c1),i' n1,i' i],152) [some D,some (ce' [pt' 1050 0,s' nmL,i' 1,z' sz] 154),some (ce' (vmap V) 98),some (ce' [v' (sl' ok nk ck),z' tr] 94),none,none,none,none,none,none,none] 1100 ((k38' i n1).a k1') := χ
end
theorem X0' {o1 : Option Addr} {l : List Rs} {S : List Bs} {V0 : List Value} (K : LkK W o1 l S V0) (o2 : Option Addr) (c1 n2 c2 : Nat) (ok : Option Addr) (nk ck : Nat) (tr : Int) :
  LTri Θ W (A4' fRnw 10) (tms 0 152 (b1 o1 o2 l.length c1 n2 c2 V0.length 0)) (oLk (dO S []) (o' (cat (S ++ [])).length) tr (V0 ++ []) ok nk ck) (.exit 0) (tms 0 152 [(0, slV o1 l.length c1), (1, slV o2 n2 c2), (5, .ptr 1053 0), (7, .ptr 1050 0), (9, .ptr 1051 0), (10, slA (V0.length + l.length))]) (oLk (dO S (l.map (·.d))) (o' (cat (S ++ (l.map (·.d)))).length) tr (V0 ++ rwV l) ok nk ck) := by
 have hkk := K.hk
 refine AT' (W := W) (g := fRnw) (b := A4' fRnw 10) (σ := {i : Nat // i <= l.length}) 152 (fun i => b1 o1 o2 l.length c1 n2 c2 (V0.length + i.1) i.1) (fun i => oLk (dO S ((l.map (·.d)).take i.1)) (o' (cat (S ++ ((l.map (·.d)).take i.1))).length) tr (V0 ++ (rwV l).take i.1) ok nk ck) (.exit 0) [(0, slV o1 l.length c1), (1, slV o2 n2 c2), (5, .ptr 1053 0), (7, .ptr 1050 0), (9, .ptr 1051 0), (10, slA (V0.length + l.length))] (oLk (dO S (l.map (·.d))) (o' (cat (S ++ (l.map (·.d)))).length) tr (V0 ++ rwV l) ok nk ck) (fun i => l.length - i.1) kLk ixB (by intro h; cases h) (fun _ => χ) χ ?_ ⟨0, Nat.zero_le _⟩
 rintro ⟨i, hi⟩; simp only
 by_cases h1 : i < l.length
 ·obtain ⟨x, hx⟩ := BU' h1; have hxm := List.mem_of_getElem? hx; obtain ⟨hA, hmost⟩ := K.ar.el x hxm; obtain ⟨oo, rfl, hcell⟩ := K.ar.at' i x hx; have hsn : (l.map (·.d)).take (i + 1) = (l.map (·.d)).take i ++ [x.d] := C6' (by rw [List.getElem?_map, hx]; rfl)
  have hvn : V0 ++ (rwV l).take (i + 1) = (V0 ++ (rwV l).take i) ++ [x.val] := by
   rw [as', C6' (l := rwV l) (j := i) (x := x.val) (by rw [rwV, List.getElem?_map, hx]; rfl)]
  have hz : (cat (S ++ ((l.map (·.d)).take i ++ [x.d]))).length <= 1099511627776 := by
   rw [<- hsn]; exact Nat.le_trans (OE' S _ _) K.hz
  have hk : ((l.map (·.d)).take i).length < 1099511627776 := by rw [List.length_take, List.length_map]; omega
  have hVl : (V0 ++ (rwV l).take i).length = V0.length + i := by rw [la', List.length_take, rwV, List.length_map]; omega
  have e1 : decide (o' i < o' l.length) = true := ltTN h1; have hw := BR' i ω
  have hbl : i.blt l.length = true := by rw [bl']; exact h1
  generalize hVd : V0 ++ (rwV l).take i = V at *
  rw [<- hVl]; have ktk := P9' V; have k1 : (0 + V.length * 1).ble (vmap V).length = true := AP' (by rw [BF']; omega); have k2 : ((V.length + 1) * 24).ble 140737488355328 = true := AP' ω; have k3 : (V.length + 1).ble 9223372036854775807 = true := AP' ω
  have k4 : (List.take (V.length * 1) (List.drop 0 (vmap V))).length.beq (V.length * 1) = true := by rw [ktk, BF', Nat.mul_one]; exact Nat.beq_refl _
  have hnx : V0.length + (i + 1) = V.length + 1 := ω
  obtain ⟨xd, xa, xc⟩ := x; simp only at hA hmost hsn hz hcell ⊢; obtain ⟨hat, hcp⟩ := hA
  cases xd with
  | nil =>
   have q1 := fun F hF => AX' (F := F) (f := fCn) (W := W) hF (π := Unit) (get := fun _ => .ret ()) (pre := fun _ => True) (nm := fun _ k => k) (A := fun _ => [slV xa 0 xc]) (H := fun _ => []) (rt := fun _ => .leaf .ret [.mt] []) (fun _ => .mt) (fun _ => RO.ret _) (fun _ => rfl) (fun _ _ => cn_mt W xa xc) fun _ => ⟨rfl, rfl, ⟨Ye, Ye⟩, A2', ⟨Ye, Ye⟩, A2'⟩
   have q2 := fun F hF => dI' K.hN S ((l.map (·.d)).take i) K.hS hz hk F hF
   generalize (l.map (·.d)).take i = rs at *
   refine ⟨[(fCn, cCnM xa 0 xc), (fAp, cApM (o' (cat (S ++ rs)).length) (o' (cat (S ++ (rs ++ [[]]))).length) (dO S rs) (dO S (rs ++ [[]])))], hB1 xa 0 xc i, [], fun F hF => A7' (q1 F hF) (BA' (q2 F hF)), fun _ _ => noL, fun F => ?_⟩
   clear q1 q2
   generalize (cat (S ++ rs)).length = zz at *
   generalize hzy : (cat (S ++ (rs ++ [[]]))).length = zy at *
   refine Yj (b9' W (o' zz) (o' zy) tr oo o2 ok xa l.length c1 n2 c2 V.length i nk ck 0 xc V (dO S rs) (dO S (rs ++ [[]])) F) ⟨⟨?_, rfl, .inl ⟨rfl, ⟨i + 1, h1⟩, BL' h1, [(1050, 1050), (1051, 1051), (1052, 1101), (1053, 1053)], by simp only [hsn, hvn, hnx, hzy]; exact ⟨χ, by kernel_rfl, ⟨Ya, Ya, Ya, Ya, Ya, Ya, Ya, Ya, Ya, Ye⟩, ⟨_, rfl, Yc⟩, ⟨_, rfl, Yc⟩, ⟨_, rfl, by rw [ktk]; exact OW.of_eq (by rw [ET']; simp only [AO.ren, CD', AW']; rfl)⟩, ⟨_, rfl, Yc⟩, Ye⟩⟩⟩⟩
   simp only [ch', hbl, hcell, k1, k2, k3, k4, Option.isSome_some, Option.getD_some, true_and, and_true]; and_intros; all_goals first | (with_reducible exact GW' hw) | (with_reducible exact A3' e1) | (with_reducible exact Ye) | (with_reducible exact rfl) | (with_reducible exact Ya) | (with_reducible exact Yb) | (with_reducible exact Yc) | exact A3' rfl | exact rfl | exact Ya | exact Yc
  | cons b0 bt =>
   have hp : 0 < (b0 :: bt).length := Nat.succ_pos _
   generalize b0 :: bt = xd at *
   have q1 := fun F hF => AX' (F := F) (f := fCn) (W := W) hF (π := Unit) (get := fun _ => .ret ()) (pre := fun _ => True) (nm := fun _ k => k) (A := fun _ => [slV xa xd.length xc]) (H := fun _ => []) (rt := fun _ => .leaf .ret [sB 1000 xd.length] [(1000, rB xd)]) (fun _ => sB 1000 xd.length) (fun _ => RO.ret _) (fun _ => rfl) (fun _ _ => VN' W xa xc xd hat hp) fun _ => ⟨rfl, rfl, ⟨Ye, Ye⟩, A2', ⟨rfl, Ye⟩, A0' (AB' _ _) A2'⟩
   have q2 := fun F hF => dH' K.hN S ((l.map (·.d)).take i) xd hmost hp K.hS hz hk F hF
   generalize (l.map (·.d)).take i = rs at *
   refine ⟨[(fCn, cCnO xa xd.length xc xd), (fAp, cApO (o' (cat (S ++ rs)).length) (o' (cat (S ++ (rs ++ [xd]))).length) xd.length xd (dO S rs) (dO S (rs ++ [xd])))], hB1 xa xd.length xc i, [], fun F hF => A7' (q1 F hF) (BA' (q2 F hF)), fun _ _ => noL, fun F => ?_⟩
   clear q1 q2
   generalize (cat (S ++ rs)).length = zz at *
   generalize hzy : (cat (S ++ (rs ++ [xd]))).length = zy at *
   refine Yj (b8' W (o' zz) (o' zy) tr oo o2 ok xa l.length c1 n2 c2 V.length i nk ck xd.length xc xd V (dO S rs) (dO S (rs ++ [xd])) F) ⟨⟨?_, rfl, .inl ⟨rfl, ⟨i + 1, h1⟩, BL' h1, [(1050, 1050), (1051, 1051), (1052, 1102), (1053, 1053)], by simp only [hsn, hvn, hnx, hzy]; exact ⟨χ, by kernel_rfl, ⟨Ya, Ya, Ya, Ya, Ya, Ya, Ya, Ya, Ya, Ye⟩, ⟨_, rfl, Yc⟩, ⟨_, rfl, Yc⟩, ⟨_, rfl, by rw [ktk]; exact OW.of_eq (by rw [ET']; simp only [AO.ren, CD', AW']; rfl)⟩, ⟨_, rfl, Yc⟩, Ye⟩⟩⟩⟩
   simp only [ch', hbl, hcell, Rs.val, k1, k2, k3, k4, Option.isSome_some, Option.getD_some, true_and, and_true]; and_intros; all_goals first | (with_reducible exact GW' hw) | (with_reducible exact A3' e1) | (with_reducible exact Ye) | (with_reducible exact rfl) | (with_reducible exact Ya) | (with_reducible exact Yb) | (with_reducible exact Yc) | exact A3' rfl | exact rfl | exact Ya | exact Yc | (refine OW.of_eq ?_; simp only [AO.ren, A1']; done)
 ·have hie : i = l.length := ω
  subst hie; rw [List.take_of_length_le (by rw [List.length_map]; exact Yd), List.take_of_length_le (by rw [rwV, List.length_map]; exact Yd)]
  generalize (cat (S ++ l.map (·.d))).length = zz at *
  generalize hvv : V0 ++ rwV l = VV at *
  refine ⟨[], AC' [hf' fRnw 10 0], [], fun _ _ => noC, fun _ _ => noL, fun F => ?_⟩
  have e := bA' W (o' zz) tr o1 o2 ok l.length c1 n2 c2 (V0.length + l.length) l.length nk ck VV (dO S (l.map (·.d))) F; rw [e]
  refine ⟨⟨?_, rfl, .inr ⟨rfl, [(1050, 1050), (1051, 1051), (1052, 1052), (1053, 1053)], by kernel_rfl, by kernel_rfl, ?_, ?_⟩⟩⟩
  rotate_left
  ·exact ⟨Ya, Ya, Ya, Ya, Ya, Ya, Ye⟩
  ·refine ⟨⟨_, rfl, ?_⟩, ⟨_, rfl, ?_⟩, ⟨_, rfl, ?_⟩, ⟨_, rfl, ?_⟩, Ye⟩
   ·exact Yc
   ·exact Yc
   ·exact OW.of_eq (by simp only [AO.ren, AW'])
   ·exact Yc
  simp only [ch', and_true]; exact A3' (ltFN (Yd))
end Go.Proofs.YtgahllbgipdchaaGreatDoor.Wk
