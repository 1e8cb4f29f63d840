/- Parts of the proof, merged. -/
import Derived.Test.YtnnojnlejlokhaaGreatDoorCat4
import Derived.Test.YtnnojnlejlokhaaGreatDoorCat2
import Derived.Test.YtnnojnlejlokhaaGreatDoorCat3
noncomputable section
set_option linter.unusedVariables false
set_option linter.unusedSimpArgs false
set_option maxRecDepth 100000
set_option linter.unusedSectionVars false
namespace Go.Proofs.YtnnojnlejlokhaaGreatDoor.Wk
open Go Go.RowKit Eng Kit Tree
noncomputable section
def uDO (PV : AV) (O : AO) (us : Int) (p q : Nat) (da sa : Bs) : LH := [(0, dkC PV us), (1001, mpO 0 1), (1002, fiC p q), (1003, rB da), (1004, rB sa), (1005, O)]
def EX' (ok : Option Addr) (nk ck : Nat) (tr : Int) : AV := .agg [slV ok nk ck, iv tr]
def UW' (ok : Option Addr) (nk ck : Nat) (tr : Int) : AO := .cells [slV ok nk ck, iv tr] tFt
def aRg : List (Nat × AV) := [(0, .ptr 0 0), (3, .ptr 1010 0), (4, nilS), (5, .map 1011), (19, .ptr 1014 0)]
def oRg0 (ok : Option Addr) (nk ck : Nat) (tr : Int) : LH := [(1010, UW' ok nk ck tr), (1011, .map [] 0), (1014, .miter (some 1001) 1 [] 1)]
def oRg1 (ok : Option Addr) (nk ck : Nat) (tr : Int) (q : Nat) (sa : Bs) : LH := [(1010, UW' ok nk ck tr), (1011, lfM (sB 1012 q)), (1012, rB sa), (1014, .miter (some 1001) 1 [0] 1)]
def kRg : List Nat := [0, 1001, 1002, 1003, 1004, 1005, 1010, 1011, 1012, 1014, 1100, 1101, 1102]
theorem bX' (us tr : Int) (pp qq nk ck : Nat) (ok : Option Addr) (da sa : Bs) (PV : AV) (O : AO) (F : HP) : AW' [(fCl, cClB qq sa)] (A6' [ht' fCr 3 1]) [] default fCr (A3' fCr 3) (tms 0 120 aRg) (uDO PV O us pp qq da sa ++ oRg0 ok nk ck tr) kRg [0, 3, 4, 5, 19] F = VT.leaf (AX.normal,[AV.ptr 0 0,AV.ptr 1010 0,e',AV.map 1011,AV.ptr 1014 0],120) [some (AO.cells [AV.map 1001,PV,i' 1099511627776,z' us] 160),some (AO.map [(s' nm1,AV.ptr 1002 0,0)] 1),some (AO.cells [AV.slice 1003 0 pp 1 (Cp.lo pp),AV.slice 1004 0 qq 1 (Cp.lo qq)] 174),some (AO.cells (rowV encB da) 10),some (AO.cells (AV.rens (sgN (fun k => match k with | 0 => 1004 | k => k) [1000] 1100) (rowV encB sa)) 10),some O,some (AO.cells [AV.v (Value.slice ok nk ck),z' tr] 76),some (AO.map [(s' nm1,AV.slice 1100 0 qq 1 (Cp.lo qq),0)] 1),none,some (AO.miter (some 1001) 1 [0] 1),some (AO.cells (AV.rens (sgN (fun k => match k with | 0 => 1004 | k => k) [1000] 1100) (rowV encB sa)) 10),none,none] 1101 (h10' ((k14' 1004 qq sa).a (((p' (findKey Tryz.prog (envW [(32,cClB qq sa)] (A6' [(14,3,1,hv j')]) [] default F) 9 (s' nm1) [] 0 = AP.ret none)).a (f' (D6' (s' nm1) []))).a k1'))) := χ
theorem bW' (us tr : Int) (pp qq nk ck : Nat) (ok : Option Addr) (da sa : Bs) (PV : AV) (O : AO) (F : HP) : AW' [] (A6' [hf' fCr 3 1]) [] default fCr (A3' fCr 3) (tms 0 120 aRg) (uDO PV O us pp qq da sa ++ oRg1 ok nk ck tr qq sa) kRg [0, 3, 4, 5, 19] F = VT.leaf (AX.exit 0,[AV.ptr 0 0,AV.ptr 1010 0,e',AV.map 1011,AV.ptr 1014 0],120) [some (AO.cells [AV.map 1001,PV,i' 1099511627776,z' us] 160),some (AO.map [(s' nm1,AV.ptr 1002 0,0)] 1),some (AO.cells [AV.slice 1003 0 pp 1 (Cp.lo pp),AV.slice 1004 0 qq 1 (Cp.lo qq)] 174),some (AO.cells (rowV encB da) 10),some (AO.cells (rowV encB sa) 10),some O,some (AO.cells [AV.v (Value.slice ok nk ck),z' tr] 76),some (AO.map [(s' nm1,AV.slice 1012 0 qq 1 (Cp.lo qq),0)] 1),some (AO.cells (rowV encB sa) 10),some (AO.miter (some 1001) 1 [0] 1),none,none,none] 1100 (k5'.a k1') := χ
def lRg (us tr : Int) (pp qq nk ck : Nat) (ok : Option Addr) (da sa : Bs) (PV : AV) (O : AO) : List AV -> AP (AX × List AV) := mkL (fun tmps => match tmps.getD 3 .any, tmps.getD 5 .any, tmps.getD 19 .any with
 | .ptr i 0, .map j, .ptr k 0 => .ret (i, j, k)
 | _, _, _ => .fail "files") (fun _ => True) (fun p k => match Nat.beq k 1010 with | true => p.1 | false => match Nat.beq k 1011 with | true => p.2.1 | false => match Nat.beq k 1014 with | true => p.2.2 | false => k) (fun _ => tms 0 120 aRg) (fun _ => uDO PV O us pp qq da sa ++ oRg0 ok nk ck tr) (fun _ => .leaf (.exit 0) (tms 0 120 [(0, .ptr 0 0), (3, .ptr 1010 0), (4, nilS), (5, .map 1011)]) (uDO PV O us pp qq da sa ++ [(1010, UW' ok nk ck tr), (1011, lfM (sB 1012 qq)), (1012, rB sa)]))
def nmF (l : List (Nat × Nat)) (k : Nat) : Nat := match l with
 | [] => k
 | x :: l => match Nat.beq k x.1 with | true => x.2 | false => nmF l k
def gCr (tmps : List AV) : AP (List (Nat × Nat)) := match tmps.getD 3 .any, tmps.getD 5 .any with
 | .ptr i 0, .map j => .read j fun o => match o with
  | .map [(_, .slice k _ _ _ _, _)] _ => .read 0 fun o => match o with
   | .cells [.map m, .slice e _ _ _ _, _, _] _ => .read m fun o => match o with
    | .map [(_, .ptr f 0, _)] _ => .read f fun o => match o with
     | .cells [.slice x _ _ _ _, .slice y _ _ _ _] _ => .ret [(1001, m), (1002, f), (1003, x), (1004, y), (1005, e), (1010, i), (1011, j), (1012, k)]
     | _ => .fail "file"
    | _ => .fail "files"
   | _ => .fail "disk"
  | _ => .fail "left"
 | _, _ => .fail "left"
def lCr (us tr : Int) (pp qq z nk ck n : Nat) (ok : Option Addr) (da sf sa R : Bs) (V : List Value) : List AV -> AP (AX × List AV) := mkL gCr (fun _ => True) nmF (fun _ => tms 0 120 (aCr z 0)) (fun _ => oC0 us pp qq da sf V z ok nk ck tr ++ oCr qq sa) (fun _ => .leaf (.exit 2) (tms 0 120 [(0, .ptr 0 0), (4, nilS), (5, .map 1011)]) (oC0 us pp qq da sf V z ok nk ck tr ++ oCr n R))
def tSt : TypeId := 2 * 9
def aOt0 : List (Nat × AV) := [(4, nilS), (5, .map 1011), (104, .slice 1015 0 1 1 (.lo 1)), (105, iv 1), (106, iv 0)]
def oOt0 (n : Nat) (R : Bs) : LH := [(1011, lfM (sB 1012 n)), (1012, rB R), (1015, .cells [sv nm1] tSt)]
def aOt1 : List (Nat × AV) := [(4, .slice 1016 0 1 2 (.lo 1)), (5, .map 1011), (104, .slice 1015 0 1 1 (.lo 1)), (105, iv 1), (106, iv 1)]
def oOt1 (n : Nat) (R : Bs) : LH := [(1011, lfM (sB 1012 n)), (1012, rB R), (1015, .cells [sv nm1] tSt), (1016, .cells [sv nm1, sB 1012 n] tAf)]
def kOt : List Nat := [1011, 1012, 1015, 1016, 1100, 1101, 1102, 1103]
theorem dJ' (n : Nat) (R : Bs) (F : HP) : AW' [] (A6' [ht' fCr 20 0, (fCr, 23, 0, hv (iv 1))]) [] default fCr (A3' fCr 20) (tms 0 120 aOt0) (oOt0 n R) kOt [4, 5, 104, 105, 106] F = VT.leaf (AX.normal,[AV.slice 1101 0 1 2 (Cp.lo 1),AV.map 1011,AV.slice 1015 0 1 1 (Cp.lo 1),i' 1,i' 1],120) [some (AO.map [(s' nm1,AV.slice 1012 0 n 1 (Cp.lo n),0)] 1),some (AO.cells (rowV encB R) 10),some (AO.cells [s' nm1] 18),none,some (AO.cells [s' nm1,AV.slice 1012 0 n 1 (Cp.lo n)] 164),some (AO.cells [s' nm1,AV.slice 1012 0 n 1 (Cp.lo n)] 164),none,none] 1102 (h10' (k54'.a ((f' (findKey Tryz.prog (envW [] (A6' [(14,20,0,hv j'),(14,23,0,hv (i' 1))]) [] default F) 9 (s' nm1) [(s' nm1,AV.slice 1012 0 n 1 (Cp.lo n),0)] 0 = AP.ret (some (0,AV.slice 1012 0 n 1 (Cp.lo n))))).a (k8'.a (k12'.a k1'))))) := χ
theorem dI' (n : Nat) (R : Bs) (F : HP) : AW' [] (A6' [hf' fCr 20 0]) [] default fCr (A3' fCr 20) (tms 0 120 aOt1) (oOt1 n R) kOt [4, 5, 104, 105, 106] F = VT.leaf (AX.exit 6,[AV.slice 1016 0 1 2 (Cp.lo 1),AV.map 1011,AV.slice 1015 0 1 1 (Cp.lo 1),i' 1,i' 1],120) [some (AO.map [(s' nm1,AV.slice 1012 0 n 1 (Cp.lo n),0)] 1),some (AO.cells (rowV encB R) 10),some (AO.cells [s' nm1] 18),some (AO.cells [s' nm1,AV.slice 1012 0 n 1 (Cp.lo n)] 164),none,none,none,none] 1100 (k5'.a k1') := χ
def lOt (n : Nat) (R : Bs) : List AV -> AP (AX × List AV) := mkL (fun tmps => match tmps.getD 5 .any, tmps.getD 104 .any with
 | .map j, .slice i _ _ _ _ => .read j fun o => match o with
  | .map [(_, .slice k _ _ _ _, _)] _ => .ret [(1011, j), (1012, k), (1015, i)]
  | _ => .fail "names"
 | _, _ => .fail "names") (fun _ => True) nmF (fun _ => tms 0 120 aOt0) (fun _ => oOt0 n R) (fun _ => .leaf (.exit 6) (tms 0 120 [(4, .slice 1016 0 1 2 (.lo 1))]) [(1012, rB R), (1016, .cells [sv nm1, sB 1012 n] tAf)])
def kC6 : List Nat := [0, 1001, 1002, 1003, 1004, 1005, 1100, 1101, 1102, 1103, 1104, 1105, 1106, 1107, 1108, 1109, 1110, 1111, 1112, 1113, 1114, 1115, 1116, 1117, 1118, 1119, 1120, 1121, 1122, 1123, 1124, 1125, 1126, 1127, 1128, 1129, 1130]
abbrev y2' : Δ := ByteArray.mk (Array.mk [99, 97, 116, 97, 108, 111, 103, 46, 49])
abbrev k81' : Cnd := (p' (OW (AO.cells [s' y2'] 18) (AO.cells [s' nm1] 18)))
abbrev k82' (q0 q1 : Nat) : Cnd := (ow' (AO.map [(s' nm1,AV.slice q0 0 q1 1 (Cp.lo q1),0)] 1))
abbrev k83' (q0 : Nat) (q1 : Bs) : Cnd := (p' ((fCr,20,A3' fCr 20,lOt q0 q1).snd.snd.fst = (fCr,20,A3' fCr 20,lOt q0 q1).snd.snd.fst))
abbrev k84' : Cnd := ((fe' true).a t')
abbrev k85' (q0 q1 q2 q3 q4 q5 q6 q7 q8 q9 q10 : Nat) (q11 : Bs) (q12 q13 q14 q15 q16 q17 q18 : Nat) : Cnd := (p' (OW (AO.cells (AV.rens (sgN (fun k => match k.beq q0 with | true => (q1,q1 + 1,q1 + 1 + 1).fst | false => match k.beq q2 with | true => (q1,q1 + 1,q1 + 1 + 1).snd.fst | false => match k.beq q3 with | true => (q1,q1 + 1,q1 + 1 + 1).snd.snd | false => k) [q4,q5,q6,q7,q8,q0,q2,q9] q10) (rowV encB q11)) 10) (AO.cells (AV.rens (nmF [(q4,q10),(q5,q12),(q6,q13),(q7,q14),(q8,q15),(q0,q16),(q2,q17),(q9,q18)]) (rowV encB q11)) 10)))
abbrev k86' (q0 : Option Addr) (q1 q2 : Nat) (q3 : Int) : Cnd := (ow' (AO.cells [AV.v (Value.slice q0 q1 q2),z' q3] 76))
abbrev h87' (q0 q1 q2 : Nat) (q3 : Int) (q4 q5 q6 q7 q8 : Nat) (z : Cnd) : Cnd := ((ow' (AO.cells [AV.map q0,AV.slice q1 0 q2 3 (Cp.lo q2),i' 1099511627776,z' q3] 160)).a ((ow' (AO.map [(s' nm1,AV.ptr q4 0,0)] 1)).a ((ow' (AO.cells [AV.slice q5 0 q6 1 (Cp.lo q6),AV.slice q7 0 q8 1 (Cp.lo q8)] 174)).a z)))
abbrev k88' : Cnd := (ow' (AO.map [] 0))
abbrev k89' (q0 : Bs) (q1 q2 q3 q4 : Nat) : Cnd := (p' (OW (AO.cells (rowV encB q0) 10) (AO.cells (AV.rens (fun k => match k.beq q1 with | true => (q2,q2 + 1,q2 + 1 + 1).fst | false => match k.beq q3 with | true => (q2,q2 + 1,q2 + 1 + 1).snd.fst | false => match k.beq q4 with | true => (q2,q2 + 1,q2 + 1 + 1).snd.snd | false => k) (rowV encB q0)) 10)))
abbrev k90' (q0 : Option Addr) (q1 q2 : Nat) (q3 : Int) (q4 q5 q6 q7 : Nat) : Cnd := (p' (VW (AV.ptr 0 0::AV.agg [AV.v (Value.slice q0 q1 q2),z' q3]::u'::AV.ptr q4 0::e'::AV.map q5::ru8 (AV.map q5::AV.ptr 0 0::AV.ptr 0 0::AV.ptr 0 0::AV.map q6::AV.ptr q7 0::ru16 (ru16 (ru16 (ru16 (ru16 (ru16 (ru4 ([]))))))))) (AV.ptr 0 0::a'::a'::AV.ptr q4 0::e'::AV.map q5::ra8 (ra4 (a'::AV.ptr q7 0::ra16 (ra16 (ra16 (ra16 (ra16 (ra16 (ra4 ([]))))))))))))
theorem eZ' (W : World) (us tr : Int) (pp qq z nk ck n : Nat) (ok : Option Addr) (da sa R : Bs) (V : List Value) (F : HP) : wRun [(fSo, cSo)] BA' [(fCr, 3, A3' fCr 3, lRg us tr pp qq nk ck ok da sa (pV z) (.cells (vmap V) tPw)), (fCr, 7, A3' fCr 7, lCr us tr pp qq z nk ck n ok da sa sa R V), (fCr, 20, A3' fCr 20, lOt n R)] W fCr [.ptr 0 0, EX' ok nk ck tr] (uDO (pV z) (.cells (vmap V) tPw) us pp qq da sa) kC6 F = VT.leaf (AV.slice 1122 0 1 2 (Cp.lo 1)) [some (AO.cells [AV.map 1111,AV.slice 1115 0 z 3 (Cp.lo z),i' 1099511627776,z' us] 160),none,none,none,none,none,none,none,none,none,none,none,none,none,none,none,none,some (AO.map [(s' nm1,AV.ptr 1112 0,0)] 1),some (AO.cells [AV.slice 1113 0 pp 1 (Cp.lo pp),AV.slice 1114 0 qq 1 (Cp.lo qq)] 174),some (AO.cells (AV.rens (sgN (nmF [(1001,1103),(1002,1104),(1003,1105),(1004,1106),(1005,1107),(1010,1108),(1011,1109),(1012,1110)]) [1001,1002,1003,1004,1005,1010,1011,1012] 1111) (rowV encB da)) 10),some (AO.cells (AV.rens (sgN (nmF [(1001,1103),(1002,1104),(1003,1105),(1004,1106),(1005,1107),(1010,1108),(1011,1109),(1012,1110)]) [1001,1002,1003,1004,1005,1010,1011,1012] 1111) (rowV encB sa)) 10),some (AO.cells (AV.rens (sgN (nmF [(1001,1103),(1002,1104),(1003,1105),(1004,1106),(1005,1107),(1010,1108),(1011,1109),(1012,1110)]) [1001,1002,1003,1004,1005,1010,1011,1012] 1111) (vmap V)) 180),some (AO.cells [AV.v (Value.slice ok nk ck),z' tr] 76),none,none,some (AO.cells [AV.map 1111] 154),none,some (AO.cells (AV.rens (sgN (nmF [(1011,1117),(1012,1118),(1015,1120)]) [1012,1016] 1121) (rowV encB R)) 10),some (AO.cells [s' nm1,AV.slice 1121 0 n 1 (Cp.lo n)] 164),none,none,none,none,none,none,none,none] 1123 (k7'.a ((p' ((fCr,3,A3' fCr 3,lRg us tr pp qq nk ck ok da sa (pV z) (AO.cells (vmap V) tPw)).snd.snd.fst = (fCr,3,A3' fCr 3,lRg us tr pp qq nk ck ok da sa (pV z) (AO.cells (vmap V) tPw)).snd.snd.fst)).a (k4'.a ((k90' ok nk ck tr 1100 1101 1001 1102).a (h87' 1001 1005 z us 1002 1003 pp 1004 qq ((k89' da 1010 1100 1011 1014).a ((k89' sa 1010 1100 1011 1014).a ((p' (OW (AO.cells (vmap V) 180) (AO.cells (AV.rens (fun k => match k.beq 1010 with | true => (1100,1100 + 1,1100 + 1 + 1).fst | false => match k.beq 1011 with | true => (1100,1100 + 1,1100 + 1 + 1).snd.fst | false => match k.beq 1014 with | true => (1100,1100 + 1,1100 + 1 + 1).snd.snd | false => k) (vmap V)) 180))).a ((k86' ok nk ck tr).a (k88'.a ((ow' (AO.miter (some 1001) 1 [] 1)).a (k7'.a ((p' ((fCr,7,A3' fCr 7,lCr us tr pp qq z nk ck n ok da sa sa R V).snd.snd.fst = (fCr,7,A3' fCr 7,lCr us tr pp qq z nk ck n ok da sa sa R V).snd.snd.fst)).a (k4'.a ((p' (VW (AV.ptr 0 0::a'::a'::AV.ptr 1108 0::e'::AV.map 1109::ra16 (ra8 (a'::a'::AV.ptr 0 0::AV.ptr 0 0::AV.ptr 0 1::AV.slice 1107 0 z 3 (Cp.lo z)::z' ↑z::i' 0::ra16 (ra16 (ra16 (ra16 (ra16 (a'::a'::[])))))))) (AV.ptr 0 0::a'::a'::AV.ptr 1108 0::e'::AV.map 1109::ra16 (ra8 (ra4 (a'::AV.slice 1107 0 z 3 (Cp.lo z)::i' z::i' 0::ra16 (ra16 (ra16 (ra16 (ra16 (a'::a'::[]))))))))))).a (h87' 1103 1107 z us 1104 1105 pp 1106 qq ((k85' 1010 1100 1011 1014 1001 1002 1003 1004 1005 1012 1103 da 1104 1105 1106 1107 1108 1109 1110).a ((k85' 1010 1100 1011 1014 1001 1002 1003 1004 1005 1012 1103 sa 1104 1105 1106 1107 1108 1109 1110).a ((p' (OW (AO.cells (AV.rens (sgN (fun k => match k.beq 1010 with | true => (1100,1100 + 1,1100 + 1 + 1).fst | false => match k.beq 1011 with | true => (1100,1100 + 1,1100 + 1 + 1).snd.fst | false => match k.beq 1014 with | true => (1100,1100 + 1,1100 + 1 + 1).snd.snd | false => k) [1001,1002,1003,1004,1005,1010,1011,1012] 1103) (vmap V)) 180) (AO.cells (AV.rens (nmF [(1001,1103),(1002,1104),(1003,1105),(1004,1106),(1005,1107),(1010,1108),(1011,1109),(1012,1110)]) (vmap V)) 180))).a ((k86' ok nk ck tr).a ((k82' 1110 qq).a ((k85' 1010 1100 1011 1014 1001 1002 1003 1004 1005 1012 1103 sa 1104 1105 1106 1107 1108 1109 1110).a (k84'.a ((k83' n R).a (k4'.a ((p' (VW (AV.ptr 0 0::a'::a'::a'::e'::AV.map 1117::ra16 (ra16 (ra16 (ra16 (ra16 (ra16 (a'::AV.ptr 0 0::AV.slice 1120 0 1 1 (Cp.lo 1)::i' 1::i' 0::ra8 (ra4 (a'::[]))))))))) (ra4 (e'::AV.map 1117::ra16 (ra16 (ra16 (ra16 (ra16 (ra16 (a'::a'::AV.slice 1120 0 1 1 (Cp.lo 1)::i' 1::i' 0::ra8 (ra4 (a'::[])))))))))))).a ((k82' 1118 n).a ((p' (OW (AO.cells (AV.rens (sgN (nmF [(1001,1103),(1002,1104),(1003,1105),(1004,1106),(1005,1107),(1010,1108),(1011,1109),(1012,1110)]) [1001,1002,1003,1004,1005,1010,1011,1012] 1111) (rowV encB R)) 10) (AO.cells (AV.rens (nmF [(1011,1117),(1012,1118),(1015,1120)]) (rowV encB R)) 10))).a (k81'.a k1'))))))))))))))))))))))))))))) := χ
abbrev k91' (q0 : Nat) : Cnd := (ow' (AO.map [(s' nm1,AV.ptr q0 0,0)] 1))
theorem eW' (us tr : Int) (pp qq nk ck : Nat) (ok : Option Addr) (da sa : Bs) (O : AO) (F : HP) : wRun [(fSo, cSo)] BA' [(fCr, 3, A3' fCr 3, lRg us tr pp qq nk ck ok da sa nilS O), (fCr, 20, A3' fCr 20, lOt qq sa)] default fCr [.ptr 0 0, EX' ok nk ck tr] (uDO nilS O us pp qq da sa) kC6 F = VT.ite false (VT.bad "indexAddr") (VT.leaf (AV.slice 1114 0 1 2 (Cp.lo 1)) [some (AO.cells [AV.map 1103,e',i' 1099511627776,z' us] 160),none,none,none,none,none,none,none,none,some (AO.map [(s' nm1,AV.ptr 1104 0,0)] 1),some (AO.cells [AV.slice 1105 0 pp 1 (Cp.lo pp),AV.slice 1106 0 qq 1 (Cp.lo qq)] 174),some (AO.cells (AV.rens (sgN (fun k => match k.beq 1010 with | true => (1100,1100 + 1,1100 + 1 + 1).fst | false => match k.beq 1011 with | true => (1100,1100 + 1,1100 + 1 + 1).snd.fst | false => match k.beq 1014 with | true => (1100,1100 + 1,1100 + 1 + 1).snd.snd | false => k) [1001,1002,1003,1004,1005,1010,1011,1012] 1103) (rowV encB da)) 10),some (AO.cells (AV.rens (sgN (fun k => match k.beq 1010 with | true => (1100,1100 + 1,1100 + 1 + 1).fst | false => match k.beq 1011 with | true => (1100,1100 + 1,1100 + 1 + 1).snd.fst | false => match k.beq 1014 with | true => (1100,1100 + 1,1100 + 1 + 1).snd.snd | false => k) [1001,1002,1003,1004,1005,1010,1011,1012] 1103) (rowV encB sa)) 10),some (AO.ren (sgN (fun k => match k.beq 1010 with | true => (1100,1100 + 1,1100 + 1 + 1).fst | false => match k.beq 1011 with | true => (1100,1100 + 1,1100 + 1 + 1).snd.fst | false => match k.beq 1014 with | true => (1100,1100 + 1,1100 + 1 + 1).snd.snd | false => k) [1001,1002,1003,1004,1005,1010,1011,1012] 1103) O),some (AO.cells [AV.v (Value.slice ok nk ck),z' tr] 76),none,none,some (AO.cells [AV.map 1103] 154),none,some (AO.cells (AV.rens (sgN (nmF [(1011,1109),(1012,1110),(1015,1112)]) [1012,1016] 1113) (rowV encB sa)) 10),some (AO.cells [s' nm1,AV.slice 1113 0 qq 1 (Cp.lo qq)] 164),none,none,none,none,none,none,none,none,none,none,none,none,none,none,none,none] 1115 (k7'.a ((p' ((fCr,3,A3' fCr 3,lRg us tr pp qq nk ck ok da sa nilS O).snd.snd.fst = (fCr,3,A3' fCr 3,lRg us tr pp qq nk ck ok da sa nilS O).snd.snd.fst)).a (k4'.a ((k90' ok nk ck tr 1100 1101 1001 1102).a ((ow' (AO.cells [AV.map 1001,e',i' 1099511627776,z' us] 160)).a ((k91' 1002).a ((ow' (AO.cells [AV.slice 1003 0 pp 1 (Cp.lo pp),AV.slice 1004 0 qq 1 (Cp.lo qq)] 174)).a ((k89' da 1010 1100 1011 1014).a ((k89' sa 1010 1100 1011 1014).a ((p' (OW O (AO.ren (fun k => match k.beq 1010 with | true => (1100,1100 + 1,1100 + 1 + 1).fst | false => match k.beq 1011 with | true => (1100,1100 + 1,1100 + 1 + 1).snd.fst | false => match k.beq 1014 with | true => (1100,1100 + 1,1100 + 1 + 1).snd.snd | false => k) O))).a ((k86' ok nk ck tr).a (k88'.a ((ow' (AO.miter (some 1001) 1 [] 1)).a (k7'.a (k84'.a ((k83' qq sa).a (k4'.a ((p' (VW (AV.ptr 0 0::a'::a'::AV.ptr 1108 0::e'::AV.map 1109::ra16 (ra8 (a'::a'::AV.ptr 0 0::AV.ptr 0 0::AV.ptr 0 1::e'::i' 0::i' 0::g'::ra16 (ra16 (ra16 (ra16 (AV.ptr 0 0::AV.slice 1112 0 1 1 (Cp.lo 1)::i' 1::i' 0::ra8 (ra4 (a'::[]))))))))) (ra4 (e'::AV.map 1109::ra16 (ra16 (ra16 (ra16 (ra16 (ra16 (a'::a'::AV.slice 1112 0 1 1 (Cp.lo 1)::i' 1::i' 0::ra8 (ra4 (a'::[])))))))))))).a ((k82' 1110 qq).a ((p' (OW (AO.cells (AV.rens (sgN (fun k => match k.beq 1010 with | true => (1100,1100 + 1,1100 + 1 + 1).fst | false => match k.beq 1011 with | true => (1100,1100 + 1,1100 + 1 + 1).snd.fst | false => match k.beq 1014 with | true => (1100,1100 + 1,1100 + 1 + 1).snd.snd | false => k) [1001,1002,1003,1004,1005,1010,1011,1012] 1103) (rowV encB sa)) 10) (AO.cells (AV.rens (nmF [(1011,1109),(1012,1110),(1015,1112)]) (rowV encB sa)) 10))).a (k81'.a k1')))))))))))))))))))))) := χ
end
open Co
open Int renaming ofNat -> o'
open Go.Value renaming string -> vs'
open Go.Value renaming int -> vi'
open Go.Value renaming bool -> vb'
open AO renaming cells -> ce'
open AV renaming v -> v'
open AV renaming ptr -> pt'
open Go.IntKind renaming i64 -> I'
open Go.IntKind renaming u8 -> u8'
open Cnd renaming holds -> ch'
open List renaming length_append -> la'
open Go.Value renaming slice -> sl'
variable {W : World} {e : Nat}
noncomputable section
abbrev fAm : Nat := 5
abbrev tFq : TypeId := 2 * 38
def ftO (ok : Option Addr) (nk ck : Nat) (tr : Int) : AO := .cells [slV ok nk ck, iv tr] tFq
def xS (k v : Δ) (d : Bool) : AO := .cells [sv k, sv v, bv d] tCh
def oAt (D : AO) (sz b : Int) (m : KM) (c : Nat) (FT po : AO) : LH := catF D sz b m c ++ [(4, FT), (5, po)]
def aAt (o2 : Option Addr) (n2 c2 : Nat) (e : Int) (xr : AV) (i : Nat) : List (Nat × AV) := [(1, slV o2 n2 c2), (5, .ptr 4 0), (7, .ptr 2 0), (8, .ptr 0 0), (10, iv e), (11, xr), (48, slV o2 n2 c2), (49, iv (o' n2)), (50, iv (o' i))]
def ixAt : List Nat := [1, 5, 7, 8, 10, 11, 48, 49, 50]
def aIk (o2 : Option Addr) (n2 c2 : Nat) (e : Int) (xr : AV) (i : Nat) (ob : Option Addr) (k cc : Nat) (lb : Bool) (j : Nat) : List (Nat × AV) := aAt o2 n2 c2 e xr i ++ [(13, .ptr 6 0), (14, bv lb), (58, slV ob k cc), (59, iv (o' k)), (60, iv (o' j))]
def ixIk : List Nat := [1, 5, 7, 8, 10, 11, 13, 14, 48, 49, 50, 58, 59, 60]
def kAt : List Nat := [0, 1, 2, 3, 4, 5, 6, 1100, 1101]
abbrev k92' (q0 : World) (q1 : Addr) (q2 : Nat) (q3 q4 : Δ) (q5 : Bool) : Cnd := ((p' (([0,1,2].all fun j_1 => (q0.cell? ((q1.add (q2 * 3)).add j_1)).isSome) = true)).a ((p' ([v' ((q0.cell? ((q1.add (q2 * 3)).add 0)).getD (Value.tuple (Array.mk []))),v' ((q0.cell? (Addr.mk (q1.add (q2 * 3)).block ((q1.add (q2 * 3)).off + 1) none)).getD (Value.tuple (Array.mk []))),v' ((q0.cell? (Addr.mk (q1.add (q2 * 3)).block ((q1.add (q2 * 3)).off + 2) none)).getD (Value.tuple (Array.mk [])))] = [v' (vs' (v' ((q0.cell? ((q1.add (q2 * 3)).add 0)).getD (Value.tuple (Array.mk [])))).strOf),v' (vs' (v' ((q0.cell? (Addr.mk (q1.add (q2 * 3)).block ((q1.add (q2 * 3)).off + 1) none)).getD (Value.tuple (Array.mk [])))).strOf),v' (vb' (v' ((q0.cell? (Addr.mk (q1.add (q2 * 3)).block ((q1.add (q2 * 3)).off + 2) none)).getD (Value.tuple (Array.mk [])))).boolOf)])).a (f' (Wk (AV.agg [v' (vs' (v' ((q0.cell? ((q1.add (q2 * 3)).add 0)).getD (Value.tuple (Array.mk [])))).strOf),v' (vs' (v' ((q0.cell? (Addr.mk (q1.add (q2 * 3)).block ((q1.add (q2 * 3)).off + 1) none)).getD (Value.tuple (Array.mk [])))).strOf),v' (vb' (v' ((q0.cell? (Addr.mk (q1.add (q2 * 3)).block ((q1.add (q2 * 3)).off + 2) none)).getD (Value.tuple (Array.mk [])))).boolOf)]) (AV.agg [s' q3,s' q4,b' q5])))))
theorem eE' (W : World) (o2 : Option Addr) (n2 c2 : Nat) (e : Int) (xr : AV) (i : Nat) (ob : Addr) (n cc : Nat) (lb l2 : Bool) (j : Nat) (k v ky vy : Δ) (d dy : Bool) (D FT po : AO) (sz b : Int) (m : KM) (c : Nat) (F : HP) : AW' [] (A6' [ht' fAm 17 0, (fAm, 18, 1, hv (.agg [sv ky, sv vy, bv dy])), (fAm, 19, 7, hv (bv l2)), (fAm, 20, 0, hv (iv (o' (j + 1))))]) [] W fAm (A3' fAm 17) (tms 0 127 (aIk o2 n2 c2 e xr i (some ob) n cc lb j)) (oAt D sz b m c FT po ++ [(6, xS k v d)]) kAt ixIk F = VT.ite lb (VT.leaf (AX.normal,[v' (sl' o2 n2 c2),pt' 4 0,pt' 2 0,pt' 0 0,z' e,xr,pt' 6 0,b' l2,v' (sl' o2 n2 c2),i' n2,i' i,v' (sl' (some ob) n cc),i' n,i' (j + 1)],127) [some (ce' [pt' 1 0,AV.map 3,z' b] 142),some (ce' [pt' 2 0,s' nmL,i' 1,z' sz] 216),some D,some (AO.map (kM m) c),some FT,some po,some (ce' [s' k,s' v,b' d] 58),some (ce' [s' ky,s' vy,b' dy] 58),none] 1101 (h3' j n ((k92' W ob j ky vy dy).a (h38' ky ((k35' k).a ((f' (Wk (v' (vb' !ky.toList == k.toList)) (b' l2))).a ((k2' j).a k1'))))))) (VT.leaf (AX.normal,[v' (sl' o2 n2 c2),pt' 4 0,pt' 2 0,pt' 0 0,z' e,xr,pt' 6 0,b' l2,v' (sl' o2 n2 c2),i' n2,i' i,v' (sl' (some ob) n cc),i' n,i' (j + 1)],127) [some (ce' [pt' 1 0,AV.map 3,z' b] 142),some (ce' [pt' 2 0,s' nmL,i' 1,z' sz] 216),some D,some (AO.map (kM m) c),some FT,some po,some (ce' [s' k,s' v,b' d] 58),some (ce' [s' ky,s' vy,b' dy] 58),none] 1101 (h3' j n ((k92' W ob j ky vy dy).a (k7'.a ((f' (Wk g' (b' l2))).a ((k2' j).a k1')))))) := χ
theorem eF' (W : World) (o2 : Option Addr) (n2 c2 : Nat) (e : Int) (xr : AV) (i : Nat) (ob : Option Addr) (n cc : Nat) (lb : Bool) (j : Nat) (k v : Δ) (d : Bool) (D FT po : AO) (sz b : Int) (m : KM) (c : Nat) (F : HP) : AW' [] (A6' [hf' fAm 17 0]) [] W fAm (A3' fAm 17) (tms 0 127 (aIk o2 n2 c2 e xr i ob n cc lb j)) (oAt D sz b m c FT po ++ [(6, xS k v d)]) kAt ixIk F = VT.leaf (AX.exit 2,[v' (sl' o2 n2 c2),pt' 4 0,pt' 2 0,pt' 0 0,z' e,xr,pt' 6 0,b' lb,v' (sl' o2 n2 c2),i' n2,i' i,v' (sl' ob n cc),i' n,i' j],127) [some (ce' [pt' 1 0,AV.map 3,z' b] 142),some (ce' [pt' 2 0,s' nmL,i' 1,z' sz] 216),some D,some (AO.map (kM m) c),some FT,some po,some (ce' [s' k,s' v,b' d] 58),none,none] 1100 ((k31' j n).a k1') := χ
structure Pa where
 c : Nat
 l : Nat
 d : Nat
 m : Nat
 f : Nat
 x : Nat
def gAt (tms : List AV) (k : Nat -> AP Pa) (g : Nat -> Nat -> Nat -> Nat -> Nat -> AP Pa) : AP Pa := match tms.getD 8 AV.undef, tms.getD 5 AV.undef with
 | .ptr c 0, .ptr f 0 => .read c fun o => match o with
  | .cells (.ptr l 0 :: .map m :: _) _ => .read l fun o2 => match o2 with
   | .cells (.ptr d 0 :: _) _ => g c l d m f
   | _ => .fail "log"
  | _ => .fail "catalog"
 | _, _ => .fail "catalog"
def gIk (tms : List AV) : AP Pa := gAt tms (fun _ => .fail "no") fun c l d m f => match tms.getD 13 AV.undef with
 | .ptr x 0 => .ret ⟨c, l, d, m, f, x⟩
 | _ => .fail "change"
def gOk (tms : List AV) : AP Pa := gAt tms (fun _ => .fail "no") fun c l d m f => .ret ⟨c, l, d, m, f, 0⟩
def nmAt (r : Nat) (p : Pa) (k : Nat) : Nat := match k with
 | 0 => p.c
 | 1 => p.l
 | 2 => p.d
 | 3 => p.m
 | 4 => p.f
 | 5 => r
 | 6 => p.x
 | k => k
def lIk (r : Nat) (o2 : Option Addr) (n2 c2 : Nat) (e : Int) (xr : AV) (i : Nat) (ob : Option Addr) (n cc : Nat) (lb : Bool) (k v : Δ) (d : Bool) (D FT po : AO) (sz b : Int) (m : KM) (c : Nat) : List AV -> AP (AX × List AV) := mkL gIk (fun _ => True) (nmAt r) (fun _ => tms 0 127 (aIk o2 n2 c2 e xr i ob n cc true 0)) (fun _ => oAt D sz b m c FT po ++ [(6, xS k v d)]) (fun _ => .leaf (.exit 2) (tms 0 127 (aAt o2 n2 c2 e xr i ++ [(13, .ptr 6 0), (14, bv lb)])) (oAt D sz b m c FT po ++ [(6, xS k v d)]))
def gGt : List AV -> AP Pa := fun args => match args with
 | .ptr i 0 :: _ => .read i fun o => match o with
  | .cells (.ptr l 0 :: .map m :: _) _ => .read l fun o2 => match o2 with
   | .cells (.ptr d 0 :: _) _ => .ret ⟨i, l, d, m, 0, 0⟩
   | _ => .fail "log"
  | _ => .fail "catalog"
 | _ => .fail "catalog"
def nmGt (p : Pa) (k : Nat) : Nat := match k with
 | 0 => p.c
 | 1 => p.l
 | 2 => p.d
 | 3 => p.m
 | k => k
def cGt (D : AO) (sz b : Int) (m : KM) (c : Nat) (k v : Δ) (b9 : Bool) : List AV -> Option (AP AV) := mkC gGt (fun _ => True) nmGt (fun _ => [.ptr 0 0, sv k]) (fun _ => catF D sz b m c) (fun _ => .leaf .ret [.tuple [sv v, bv b9]] (catF D sz b m c))
def hRd (k v : Δ) (d : Bool) (i : Nat) (ob : Option Addr) (n cc : Nat) : List (FuncId × Nat × Nat × Eng.Hint) := [ht' fAm 13 0, (fAm, 14, 2, hv (.agg [sv k, sv v, bv d])), (fAm, 16, 2, hv (iv (o' (i + 1)))), (fAm, 16, 3, h0v (slV ob n cc)), hf' fAm 22 19, (fAm, 24, 0, hv (iv (o' (i + 1))))]
abbrev k93' (q0 q1 : Δ) (q2 : Bool) : Cnd := (ow' (ce' [s' q0,s' q1,b' q2] 58))
abbrev h94' (q0 q1 : Int) (q2 : AO) (q3 : Nat) (q4 : KM) (q5 : Nat) (q6 q7 : AO) (z : Cnd) : Cnd := ((ow' (ce' [pt' 1 0,AV.map 3,z' q0] 142)).a ((ow' (ce' [pt' 2 0,s' nmL,i' 1,z' q1] 216)).a ((p' (OW q2 (AO.ren (nmAt 5 (Pa.mk 0 1 2 3 4 q3)) q2))).a ((p' (OW (AO.map (kM q4) q5) (AO.map (renE (nmAt 5 (Pa.mk 0 1 2 3 4 q3)) (kM q4)) q5))).a ((p' (OW q6 (AO.ren (nmAt 5 (Pa.mk 0 1 2 3 4 q3)) q6))).a ((p' (OW q7 (AO.ren (nmAt 5 (Pa.mk 0 1 2 3 4 q3)) q7))).a z))))))
abbrev h95' (q0 q1 q2 : Nat) (q3 q4 : Addr) (q5 q6 : Nat) (z : Cnd) : Cnd := ((fe' true).a ((f' (Wk (z' (IntKind.i64.wrap (o' q0 + o' 1))) (i' (q0 + 1)))).a (((p' (q0 + 1 <= q1)).a ((p' (q1 <= q2)).a (f' (Wk (v' (sl' (if q2 = q0 + 1 then some q3 else some (Addr.mk q3.block (q3.off + (q0 + 1) * 3) none)) (q1 - (q0 + 1)) (q2 - (q0 + 1)))) (v' (sl' (some q4) q5 q6)))))).a z)))
abbrev h96' (q0 q1 : Nat) (q2 : World) (q3 : Addr) (q4 q5 : Δ) (q6 : Bool) (z : Cnd) : Cnd := ((wb' (decide (o' q0 < o' q1)) j').a ((f' (q0.blt q1 = true)).a (((p' (([0,1,2].all fun j => (q2.cell? ((q3.add (q0 * 3)).add j)).isSome) = true)).a ((p' ([v' ((q2.cell? ((q3.add (q0 * 3)).add 0)).getD (Value.tuple (Array.mk []))),v' ((q2.cell? (Addr.mk (q3.add (q0 * 3)).block ((q3.add (q0 * 3)).off + 1) none)).getD (Value.tuple (Array.mk []))),v' ((q2.cell? (Addr.mk (q3.add (q0 * 3)).block ((q3.add (q0 * 3)).off + 2) none)).getD (Value.tuple (Array.mk [])))] = [v' (vs' (v' ((q2.cell? ((q3.add (q0 * 3)).add 0)).getD (Value.tuple (Array.mk [])))).strOf),v' (vs' (v' ((q2.cell? (Addr.mk (q3.add (q0 * 3)).block ((q3.add (q0 * 3)).off + 1) none)).getD (Value.tuple (Array.mk [])))).strOf),v' (vb' (v' ((q2.cell? (Addr.mk (q3.add (q0 * 3)).block ((q3.add (q0 * 3)).off + 2) none)).getD (Value.tuple (Array.mk [])))).boolOf)])).a (f' (Wk (AV.agg [v' (vs' (v' ((q2.cell? ((q3.add (q0 * 3)).add 0)).getD (Value.tuple (Array.mk [])))).strOf),v' (vs' (v' ((q2.cell? (Addr.mk (q3.add (q0 * 3)).block ((q3.add (q0 * 3)).off + 1) none)).getD (Value.tuple (Array.mk [])))).strOf),v' (vb' (v' ((q2.cell? (Addr.mk (q3.add (q0 * 3)).block ((q3.add (q0 * 3)).off + 2) none)).getD (Value.tuple (Array.mk [])))).boolOf)]) (AV.agg [s' q4,s' q5,b' q6]))))).a z)))
theorem d1' (W : World) (a : Addr) (n2 c2 : Nat) (e : Int) (lb d : Bool) (xr : AV) (i : Nat) (ob : Addr) (n cc : Nat) (k v : Δ) (D FT po : AO) (sz b : Int) (m : KM) (c : Nat) (gv : Δ) (gt : Bool) (F : HP) : AW' [(fGt, cGt D sz b m c k gv gt)] (A6' (hRd k v d i (some ob) n cc ++ [hf' fAm 22 1, hf' fAm 22 4])) [(fAm, 17, A3' fAm 17, lIk 5 (some a) n2 c2 e xr i (some ob) n cc lb k v d D FT po sz b m c)] W fAm (A3' fAm 13) (tms 0 127 (aAt (some a) n2 c2 e xr i)) (oAt D sz b m c FT po) kAt ixAt F = VT.leaf (AX.normal,[v' (sl' (some a) n2 c2),pt' 4 0,pt' 2 0,pt' 0 0,z' e,((AV.ren (sgN (nmAt 5 (Pa.mk 0 1 2 3 4 1100)) [] 0) xr)),v' (sl' (some a) n2 c2),i' n2,i' (i + 1)],127) [some (ce' [pt' 1 0,AV.map 3,z' b] 142),some (ce' [pt' 2 0,s' nmL,i' 1,z' sz] 216),some (AO.ren (sgN (nmGt (Pa.mk 0 1 2 3 0 0)) [] 0) D),some (AO.map (renE (sgN (nmGt (Pa.mk 0 1 2 3 0 0)) [] 0) (kM m)) c),some (AO.ren (sgN (nmAt 5 (Pa.mk 0 1 2 3 4 1100)) [] 0) FT),some (AO.ren (sgN (nmAt 5 (Pa.mk 0 1 2 3 4 1100)) [] 0) po),none,some (ce' [s' k,s' v,b' d] 58),none] 1101 (h96' i n2 W a k v d (h95' i n2 c2 a ob n cc ((p' ((fAm,17,A3' fAm 17,lIk 5 (some a) n2 c2 e xr i (some ob) n cc lb k v d D FT po sz b m c).snd.snd.fst = (fAm,17,A3' fAm 17,lIk 5 (some a) n2 c2 e xr i (some ob) n cc lb k v d D FT po sz b m c).snd.snd.fst)).a (k4'.a ((p' (VW (a'::v' (sl' (some a) n2 c2)::a'::a'::a'::pt' 4 0::a'::pt' 2 0::pt' 0 0::a'::z' e::xr::i' i::pt' 1100 0::b' true::ra16 (ra16 (a'::v' (sl' (some a) n2 c2)::i' n2::i' i::j'::i' i::v' (Value.pointer (some (a.add (i * 3))))::AV.agg [s' k,s' v,b' d]::v' (sl' (some a) n2 c2)::i' i::i' (i + 1)::v' (sl' (some ob) n cc)::z' ↑n::i' 0::ra16 (ra16 (ra16 (ra16 (a'::a'::[]))))))) (a'::v' (sl' (some a) n2 c2)::a'::a'::a'::pt' 4 0::a'::pt' 2 0::pt' 0 0::a'::z' e::(AV.ren (nmAt 5 (Pa.mk 0 1 2 3 4 1100)) xr)::a'::pt' 1100 0::b' true::ra16 (ra16 (a'::v' (sl' (some a) n2 c2)::i' n2::i' i::ra4 (a'::a'::a'::v' (sl' (some ob) n cc)::i' n::i' 0::ra16 (ra16 (ra16 (ra16 (a'::a'::[])))))))))).a (h94' b sz D 1100 m c FT po ((k93' k v d).a ((k35' k).a (((Cnd.p True).a ((vw' [pt' 0 0,s' k]).a ((ow' (ce' [pt' 1 0,AV.map 3,z' b] 142)).a ((ow' (ce' [pt' 2 0,s' nmL,i' 1,z' sz] 216)).a ((p' (OW (AO.ren (sgN (nmAt 5 (Pa.mk 0 1 2 3 4 1100)) [] 0) D) (AO.ren (nmGt (Pa.mk 0 1 2 3 0 0)) D))).a (f' (OW (AO.map (renE (sgN (nmAt 5 (Pa.mk 0 1 2 3 4 1100)) [] 0) (kM m)) c) (AO.map (renE (nmGt (Pa.mk 0 1 2 3 0 0)) (kM m)) c)))))))).a ((wb' (e == o' 0) g').a (k78'.a (k78'.a ((k2' i).a k1'))))))))))))) := χ
abbrev h97' (z : Cnd) : Cnd := ((f' (Wk (b' false) g')).a ((f' (Wk g' g')).a z))
abbrev h98' (q0 : Δ) (q1 q2 : Int) (q3 : Nat) (q4 : AO) (q5 : KM) (q6 : Nat) (z : Cnd) : Cnd := ((ee' (s' q0)).a (((p' True).a ((vw' [pt' 0 0,s' q0]).a ((ow' (ce' [pt' 1 0,AV.map 3,z' q1] 142)).a ((ow' (ce' [pt' 2 0,s' nmL,i' 1,z' q2] 216)).a ((p' (OW (AO.ren (sgN (nmAt 5 (Pa.mk 0 1 2 3 4 q3)) [] 0) q4) (AO.ren (nmGt (Pa.mk 0 1 2 3 0 0)) q4))).a (f' (OW (AO.map (renE (sgN (nmAt 5 (Pa.mk 0 1 2 3 4 q3)) [] 0) (kM q5)) q6) (AO.map (renE (nmGt (Pa.mk 0 1 2 3 0 0)) (kM q5)) q6)))))))).a ((f' (Wk (b' true) j')).a z)))
theorem d0' (W : World) (a : Addr) (n2 c2 : Nat) (d : Bool) (xr : AV) (i : Nat) (ob : Addr) (n cc : Nat) (k v : Δ) (D FT po : AO) (sz b : Int) (m : KM) (c : Nat) (gv : Δ) (gt : Bool) (F : HP) : AW' [(fGt, cGt D sz b m c k gv gt)] (A6' (hRd k v d i (some ob) n cc ++ [ht' fAm 22 1, hf' fAm 22 4])) [(fAm, 17, A3' fAm 17, lIk 5 (some a) n2 c2 0 xr i (some ob) n cc false k v d D FT po sz b m c)] W fAm (A3' fAm 13) (tms 0 127 (aAt (some a) n2 c2 0 xr i)) (oAt D sz b m c FT po) kAt ixAt F = VT.leaf (AX.normal,[v' (sl' (some a) n2 c2),pt' 4 0,pt' 2 0,pt' 0 0,i' 0,((AV.ren (sgN (nmAt 5 (Pa.mk 0 1 2 3 4 1100)) [] 0) xr)),v' (sl' (some a) n2 c2),i' n2,i' (i + 1)],127) [some (ce' [pt' 1 0,AV.map 3,z' b] 142),some (ce' [pt' 2 0,s' nmL,i' 1,z' sz] 216),some (AO.ren (sgN (nmGt (Pa.mk 0 1 2 3 0 0)) [] 0) D),some (AO.map (renE (sgN (nmGt (Pa.mk 0 1 2 3 0 0)) [] 0) (kM m)) c),some (AO.ren (sgN (nmAt 5 (Pa.mk 0 1 2 3 4 1100)) [] 0) FT),some (AO.ren (sgN (nmAt 5 (Pa.mk 0 1 2 3 4 1100)) [] 0) po),none,some (ce' [s' k,s' v,b' d] 58),none] 1101 (h96' i n2 W a k v d (h95' i n2 c2 a ob n cc ((p' ((fAm,17,A3' fAm 17,lIk 5 (some a) n2 c2 0 xr i (some ob) n cc false k v d D FT po sz b m c).snd.snd.fst = (fAm,17,A3' fAm 17,lIk 5 (some a) n2 c2 0 xr i (some ob) n cc false k v d D FT po sz b m c).snd.snd.fst)).a (k4'.a ((p' (VW (a'::v' (sl' (some a) n2 c2)::a'::a'::a'::pt' 4 0::a'::pt' 2 0::pt' 0 0::a'::i' 0::xr::i' i::pt' 1100 0::b' true::ra16 (ra16 (a'::v' (sl' (some a) n2 c2)::i' n2::i' i::j'::i' i::v' (Value.pointer (some (a.add (i * 3))))::AV.agg [s' k,s' v,b' d]::v' (sl' (some a) n2 c2)::i' i::i' (i + 1)::v' (sl' (some ob) n cc)::z' ↑n::i' 0::ra16 (ra16 (ra16 (ra16 (a'::a'::[]))))))) (a'::v' (sl' (some a) n2 c2)::a'::a'::a'::pt' 4 0::a'::pt' 2 0::pt' 0 0::a'::i' 0::(AV.ren (nmAt 5 (Pa.mk 0 1 2 3 4 1100)) xr)::a'::pt' 1100 0::b' true::ra16 (ra16 (a'::v' (sl' (some a) n2 c2)::i' n2::i' i::ra4 (a'::a'::a'::v' (sl' (some ob) n cc)::i' n::i' 0::ra16 (ra16 (ra16 (ra16 (a'::a'::[])))))))))).a (h94' b sz D 1100 m c FT po ((k93' k v d).a (h98' k b sz 1100 D m c (h97' ((k2' i).a k1')))))))))) := χ
theorem d2' (W : World) (a : Addr) (n2 c2 : Nat) (xr : AV) (i : Nat) (ob : Addr) (n cc : Nat) (k v : Δ) (D FT po : AO) (sz b : Int) (m : KM) (c : Nat) (gv : Δ) (gt : Bool) (F : HP) : AW' [(fGt, cGt D sz b m c k gv false)] (A6' (hRd k v true i (some ob) n cc ++ [ht' fAm 22 1, ht' fAm 22 4, hf' fAm 22 9, hf' fAm 22 12, hf' fAm 22 17, hf' fAm 22 18])) [(fAm, 17, A3' fAm 17, lIk 5 (some a) n2 c2 0 xr i (some ob) n cc true k v true D FT po sz b m c)] W fAm (A3' fAm 13) (tms 0 127 (aAt (some a) n2 c2 0 xr i)) (oAt D sz b m c FT po) kAt ixAt F = VT.leaf (AX.normal,[v' (sl' (some a) n2 c2),pt' 4 0,pt' 2 0,pt' 0 0,i' 0,((AV.ren (sgN (nmAt 5 (Pa.mk 0 1 2 3 4 1100)) [] 0) xr)),v' (sl' (some a) n2 c2),i' n2,i' (i + 1)],127) [some (ce' [pt' 1 0,AV.map 3,z' b] 142),some (ce' [pt' 2 0,s' nmL,i' 1,z' sz] 216),some (AO.ren (sgN (nmGt (Pa.mk 0 1 2 3 0 0)) [] 0) D),some (AO.map (renE (sgN (nmGt (Pa.mk 0 1 2 3 0 0)) [] 0) (kM m)) c),some (AO.ren (sgN (nmAt 5 (Pa.mk 0 1 2 3 4 1100)) [] 0) FT),some (AO.ren (sgN (nmAt 5 (Pa.mk 0 1 2 3 4 1100)) [] 0) po),none,some (ce' [s' k,s' v,b' true] 58),none] 1101 (h3' i n2 ((k43' W a i k v).a (h95' i n2 c2 a ob n cc ((p' ((fAm,17,A3' fAm 17,lIk 5 (some a) n2 c2 0 xr i (some ob) n cc true k v true D FT po sz b m c).snd.snd.fst = (fAm,17,A3' fAm 17,lIk 5 (some a) n2 c2 0 xr i (some ob) n cc true k v true D FT po sz b m c).snd.snd.fst)).a (k4'.a ((p' (VW (a'::v' (sl' (some a) n2 c2)::a'::a'::a'::pt' 4 0::a'::pt' 2 0::pt' 0 0::a'::i' 0::xr::i' i::pt' 1100 0::b' true::ra16 (ra16 (a'::v' (sl' (some a) n2 c2)::i' n2::i' i::j'::i' i::v' (Value.pointer (some (a.add (i * 3))))::AV.agg [s' k,s' v,b' true]::v' (sl' (some a) n2 c2)::i' i::i' (i + 1)::v' (sl' (some ob) n cc)::z' ↑n::i' 0::ra16 (ra16 (ra16 (ra16 (a'::a'::[]))))))) (a'::v' (sl' (some a) n2 c2)::a'::a'::a'::pt' 4 0::a'::pt' 2 0::pt' 0 0::a'::i' 0::(AV.ren (nmAt 5 (Pa.mk 0 1 2 3 4 1100)) xr)::a'::pt' 1100 0::b' true::ra16 (ra16 (a'::v' (sl' (some a) n2 c2)::i' n2::i' i::ra4 (a'::a'::a'::v' (sl' (some ob) n cc)::i' n::i' 0::ra16 (ra16 (ra16 (ra16 (a'::a'::[])))))))))).a (h94' b sz D 1100 m c FT po ((ow' (ce' [s' k,s' v,b' true] 58)).a (h98' k b sz 1100 D m c (k22'.a (k34'.a (k5'.a (h97' (k78'.a (k78'.a ((k2' i).a k1')))))))))))))))) := χ
theorem bZ' (W : World) (a : Addr) (n2 c2 : Nat) (xr : AV) (i : Nat) (ob : Addr) (n cc : Nat) (k v : Δ) (D FT po : AO) (sz b : Int) (m : KM) (c : Nat) (gv : Δ) (gt : Bool) (F : HP) : AW' [(fGt, cGt D sz b m c k v true)] (A6' (hRd k v false i (some ob) n cc ++ [ht' fAm 22 1, ht' fAm 22 4, hf' fAm 22 9, ht' fAm 22 12, hf' fAm 22 16, hf' fAm 22 17, hf' fAm 22 18])) [(fAm, 17, A3' fAm 17, lIk 5 (some a) n2 c2 0 xr i (some ob) n cc true k v false D FT po sz b m c)] W fAm (A3' fAm 13) (tms 0 127 (aAt (some a) n2 c2 0 xr i)) (oAt D sz b m c FT po) kAt ixAt F = VT.leaf (AX.normal,[v' (sl' (some a) n2 c2),pt' 4 0,pt' 2 0,pt' 0 0,i' 0,((AV.ren (sgN (nmAt 5 (Pa.mk 0 1 2 3 4 1100)) [] 0) xr)),v' (sl' (some a) n2 c2),i' n2,i' (i + 1)],127) [some (ce' [pt' 1 0,AV.map 3,z' b] 142),some (ce' [pt' 2 0,s' nmL,i' 1,z' sz] 216),some (AO.ren (sgN (nmGt (Pa.mk 0 1 2 3 0 0)) [] 0) D),some (AO.map (renE (sgN (nmGt (Pa.mk 0 1 2 3 0 0)) [] 0) (kM m)) c),some (AO.ren (sgN (nmAt 5 (Pa.mk 0 1 2 3 4 1100)) [] 0) FT),some (AO.ren (sgN (nmAt 5 (Pa.mk 0 1 2 3 4 1100)) [] 0) po),none,some (ce' [s' k,s' v,b' false] 58),none] 1101 (h3' i n2 ((k44' W a i k v).a (h95' i n2 c2 a ob n cc ((p' ((fAm,17,A3' fAm 17,lIk 5 (some a) n2 c2 0 xr i (some ob) n cc true k v false D FT po sz b m c).snd.snd.fst = (fAm,17,A3' fAm 17,lIk 5 (some a) n2 c2 0 xr i (some ob) n cc true k v false D FT po sz b m c).snd.snd.fst)).a (k4'.a ((p' (VW (a'::v' (sl' (some a) n2 c2)::a'::a'::a'::pt' 4 0::a'::pt' 2 0::pt' 0 0::a'::i' 0::xr::i' i::pt' 1100 0::b' true::ra16 (ra16 (a'::v' (sl' (some a) n2 c2)::i' n2::i' i::j'::i' i::v' (Value.pointer (some (a.add (i * 3))))::AV.agg [s' k,s' v,b' false]::v' (sl' (some a) n2 c2)::i' i::i' (i + 1)::v' (sl' (some ob) n cc)::z' ↑n::i' 0::ra16 (ra16 (ra16 (ra16 (a'::a'::[]))))))) (a'::v' (sl' (some a) n2 c2)::a'::a'::a'::pt' 4 0::a'::pt' 2 0::pt' 0 0::a'::i' 0::(AV.ren (nmAt 5 (Pa.mk 0 1 2 3 4 1100)) xr)::a'::pt' 1100 0::b' true::ra16 (ra16 (a'::v' (sl' (some a) n2 c2)::i' n2::i' i::ra4 (a'::a'::a'::v' (sl' (some ob) n cc)::i' n::i' 0::ra16 (ra16 (ra16 (ra16 (a'::a'::[])))))))))).a (h94' b sz D 1100 m c FT po ((ow' (ce' [s' k,s' v,b' false] 58)).a (h98' k b sz 1100 D m c (k22'.a (k41'.a (k5'.a (k22'.a ((k35' v).a ((f' (Wk (v' (vb' !v.toList == v.toList)) g')).a (k78'.a (k78'.a (k78'.a ((k2' i).a k1'))))))))))))))))))) := χ
theorem bY' (W : World) (o2 : Option Addr) (n2 c2 : Nat) (e : Int) (xr : AV) (i : Nat) (D FT po : AO) (sz b : Int) (m : KM) (c : Nat) (F : HP) : AW' [] (A6' [hf' fAm 13 0]) [] W fAm (A3' fAm 13) (tms 0 127 (aAt o2 n2 c2 e xr i)) (oAt D sz b m c FT po) kAt ixAt F = VT.leaf (AX.exit 0,[v' (sl' o2 n2 c2),pt' 4 0,pt' 2 0,pt' 0 0,z' e,xr,v' (sl' o2 n2 c2),i' n2,i' i],127) [some (ce' [pt' 1 0,AV.map 3,z' b] 142),some (ce' [pt' 2 0,s' nmL,i' 1,z' sz] 216),some D,some (AO.map (kM m) c),some FT,some po,none,none,none] 1100 ((k31' i n2).a k1') := χ
def lRd (r : Nat) (o2 : Option Addr) (n2 c2 : Nat) (e : Int) (xr : AV) (D FT po : AO) (sz b : Int) (m : KM) (c : Nat) : List AV -> AP (AX × List AV) := mkL gOk (fun _ => True) (nmAt r) (fun _ => tms 0 127 (aAt o2 n2 c2 e xr 0)) (fun _ => oAt D sz b m c FT po) (fun _ => .leaf (.exit 0) (tms 0 127 [(5, .ptr 4 0), (7, .ptr 2 0), (11, xr)]) (oAt D sz b m c FT po))
end
noncomputable section
abbrev fRb : Nat := 59
abbrev fRl : Nat := 60
abbrev fTx : Nat := 77
abbrev tRr : TypeId := 2 * 142
def u8V (w : Int) : AV := .v (.int .u8 w)
def rdC (k o n : Nat) (w bi : Int) : AO := .cells [.slice k o n 1 (.lo n), u8V w, iv bi, iv 0] tRr
def hTk : List (FuncId × Nat × Nat × Hint) := [ht' fTk 2 4, hf' fTk 2 7, hf' fTk 2 15, hf' fTk 4 4]
abbrev k99' (q0 : UInt8) : Cnd := (ee' (v' (vi' u8' ↑q0.toNat)))
theorem oBt_eq (l : Bs) (o n : Nat) (w : Int) (b : UInt8) (d : Bool) (F : HP) : wRun [] (A6' (hTk ++ [hf' fRb 1 4, ht' fRb 3 4, hf' fRb 5 1, (fRb, 7, 4, hv (byv b)), (fRb, 8, 5, hv (bv d)), (fRb, 9, 4, hv (u8V 0)), (fRb, 10, 4, hv (iv 7))])) [] default fRb [.ptr 0 0] [(0, rdC 1 o n w 0), (1, rB l)] [0, 1] F = VT.leaf (b' d) [some (ce' [AV.slice 1 (o + 1) (n - 1) 1 (Cp.lo (n - 1)),v' (vi' u8' (o' 0)),i' 7,i' 0] 284),some (ce' (rowV encB l) 10)] 1100 (k50'.a (k5'.a (k50'.a (k22'.a (((fe' true).a ((ee' (i' 0)).a ((f' (Wk (b' true) j')).a ((f' (Wk (b' false) g')).a ((fe' true).a ((wb' (decide (o' 1 > ↑n)) g').a ((ee' (i' 0)).a ((f' (Wk (b' false) g')).a ((fe' true).a ((tt'.a (tt'.a (f' (Nat.ble 1 n = true)))).a ((fe' true).a (((p' (Nat.ble 1 n = true)).a ((p' (n.ble n = true)).a (f' (n.ble n = true)))).a ((fe' true).a t'))))))))))))).a (k5'.a (k7'.a (((p' (o.blt (rowV encB l).length = true)).a ((p' ((rowV encB l).getD o (u') = v' (vi' u8' ((rowV encB l).getD o (u')).intOf))).a (f' (Wk (v' (vi' u8' ((rowV encB l).getD o (u')).intOf)) (v' (vi' u8' ↑b.toNat)))))).a (h15' ((k99' b).a ((wb' (IntKind.u8.wrap ↑(BitVec.ofInt 8 ↑b.toNat &&& BitVec.ofInt 8 (o' 1)).toNat == o' 1) (b' d)).a ((k99' b).a ((f' (Wk (v' (vi' u8' (((b.toNat : Nat) : Int).fdiv (o' 2)))) (v' (vi' u8' (o' 0))))).a (k7'.a ((ee' (i' 8)).a ((f' (Wk (i' 7) (i' 7))).a (k7'.a k1'))))))))))))))))) := χ
def lRj (l : Bs) (o m : Nat) : List AV -> AP (AX × List AV) := mkL gRn (fun q => q.2.1 = o /\ o + 4 <= l.length) (fun q => nmR q.1) (fun q => tms 0 22 (aRn q.2.1 q.2.2 0 0)) (fun _ => [(0, rB l)]) (fun q => .leaf (.exit 0) (tms 0 22 [(4, iv (o' m))]) [(0, rB l)])
theorem oLs_eq (l : Bs) (o n m : Nat) (w bi : Int) (s : Δ) (F : HP) : wRun [] (A6' (hTk ++ [hf' fTx 3 4, hf' fTx 5 6, (fTx, 8, 3, ht s)])) [(fRn, 2, A3' fRn 2, lRj l o m)] default fRl [.ptr 0 0] [(0, rdC 1 o n w bi), (1, rB l)] [0, 1, 1100, 1101, 1102] F = VT.leaf (s' s) [some (ce' [AV.slice 1 (o + 4 + m * 1) (n - 4 - m) 1 (Cp.lo (n - 4 - m)),v' (vi' u8' w),i' 0,i' 0] 284),some (ce' (AV.rens (sgN (nmR 1) [] 0) (rowV encB l)) 10),none,none,none] 1100 (((fe' true).a ((((fe' true).a ((ee' (i' 0)).a ((f' (Wk (b' true) j')).a ((f' (Wk (b' false) g')).a ((fe' true).a ((wb' (decide (o' 4 > ↑n)) g').a ((ee' (i' 0)).a ((f' (Wk (b' false) g')).a ((fe' true).a ((tt'.a (tt'.a (f' (Nat.ble 4 n = true)))).a ((fe' true).a (((p' (Nat.ble 4 n = true)).a ((p' (n.ble n = true)).a (f' (n.ble n = true)))).a ((fe' true).a t'))))))))))))).a ((p' ((fRn,2,A3' fRn 2,lRj l o m).snd.snd.fst = (fRn,2,A3' fRn 2,lRj l o m).snd.snd.fst)).a ((p' (o = o /\ o + 4 <= List.length l)).a ((p' (VW (pt' 0 0::i' 4::u'::u'::i' 0::u'::u'::pt' 0 0::i' 4::AV.slice 1 o 4 1 (Cp.ex 4)::i' 4::i' 0::ru8 (u'::u'::[])) (ra4 (i' 0::ra4 (AV.slice 1 o 4 1 (Cp.ex 4)::i' 4::i' 0::ra8 (a'::a'::[])))))).a (f' (OW (ce' (rowV encB l) 10) (ce' (AV.rens (nmR 1) (rowV encB l)) 10))))))).a ((ee' (i' 0)).a ((f' (Wk (b' false) g')).a ((fe' true).a ((wb' (decide (o' m > ↑(n - 4))) g').a (((fe' true).a ((ee' (i' 0)).a ((f' (Wk (b' true) j')).a ((f' (Wk (b' false) g')).a ((fe' true).a ((wb' (decide (o' m > ↑(n - 4))) g').a ((ee' (i' 0)).a ((f' (Wk (b' false) g')).a ((fe' true).a ((tt'.a ((p' (m.ble m = true)).a (f' (m.ble (n - 4) = true)))).a ((fe' true).a (((p' (m.ble (n - 4) = true)).a ((p' ((n - 4).ble (n - 4) = true)).a (f' ((n - 4).ble (n - 4) = true)))).a ((fe' true).a t'))))))))))))).a ((f' (o + 4 + 0 + m <= (AV.rens (sgN (nmR 1) [] 0) (rowV encB l)).length /\ List.take m (List.drop (o + 4 + 0) (AV.rens (sgN (nmR 1) [] 0) (rowV encB l))) = vmap (List.map (fun b => vi' u8' ↑b.toNat) s.data.toList))).a t')))))))).a k1') := χ
end
noncomputable section
structure Rdr where
 i : Nat
 j : Nat
 o : Nat
 n : Nat
 w : Int
 bi : Int
def gRd : List AV -> AP Rdr := fun args => match args with
 | [.ptr i 0] => .read i fun x => match x with
  | .cells [.slice j o n _ _, .v (.int _ w), .v (.int _ bi), _] _ => .ret ⟨i, j, o, n, w, bi⟩
  | _ => .fail "reader"
 | _ => .fail "reader"
def nmRd (p : Rdr) (k : Nat) : Nat := match k with
 | 0 => p.i
 | 1 => p.j
 | k => k
def BtP (l : Bs) (d : Bool) (p : Rdr) : Prop := p.bi = 0 /\ p.o + p.n = l.length /\ l[p.o]? = some (bitB d)
def LsP (l : Bs) (s : Δ) (p : Rdr) : Prop := p.o + p.n = l.length /\ 4 + s.size <= p.n /\ rdv l p.o = s.size /\ rdt l p.o = s
def two (bi : Int) (k v : Δ) : Δ := match bi with
 | .ofNat n => match n with
  | 0 => v
  | _ + 1 => k
 | _ => k
def cRb (l : Bs) (d : Bool) : List AV -> Option (AP AV) := mkC gRd (BtP l d) nmRd (fun _ => [.ptr 0 0]) (fun p => [(0, rdC 1 p.o p.n p.w p.bi), (1, rB l)]) (fun p => .leaf .ret [bv d] [(0, rdC 1 (p.o + 1) (p.n - 1) 0 7), (1, rB l)])
def cRl (l : Bs) (k v : Δ) : List AV -> Option (AP AV) := mkC gRd (fun p => LsP l (two p.bi k v) p) nmRd (fun _ => [.ptr 0 0]) (fun p => [(0, rdC 1 p.o p.n p.w p.bi), (1, rB l)]) (fun p => .leaf .ret [sv (two p.bi k v)] [(0, rdC 1 (p.o + 4 + (two p.bi k v).size) (p.n - 4 - (two p.bi k v).size) p.w 0), (1, rB l)])
def aDc (x : AV) : List (Nat × AV) := [(2, x), (4, .ptr 0 0)]
def oDc (e : Bs) (o n : Nat) (w : Int) : LH := [(0, rdC 1 o n w 0), (1, rB e)]
def kDc : List Nat := [0, 1, 1051, 1100, 1101, 1102, 1103]
def hDc : BI' := A6' [ht' fDc 2 2, hf' fDc 4 2]
abbrev k100' (q0 q1 : Δ) (q2 : Bool) : Cnd := (ee' [s' (two (o' 7) q0 q1),s' (two (o' 0) q0 q1),b' q2])
abbrev k101' : Cnd := ((ee' (i' 0)).a t')
abbrev k102' (q0 : Bs) (q1 q2 : Δ) (q3 q4 : Nat) : Cnd := ((p' (LsP q0 (two (o' 0) q1 q2) (Rdr.mk 0 1 (q3 + 1 + 4 + (two (o' 7) q1 q2).size) (q4 - 1 - 4 - (two (o' 7) q1 q2).size) (o' 0) (o' 0)))).a ((vw' [pt' 0 0]).a ((ow' (ce' [AV.slice 1 (q3 + 1 + 4 + (two (o' 7) q1 q2).size) (q4 - 1 - 4 - (two (o' 7) q1 q2).size) 1 (Cp.lo (q4 - 1 - 4 - (two (o' 7) q1 q2).size)),v' (vi' u8' (o' 0)),i' 0,i' 0] 284)).a (f' (OW (ce' (AV.rens (sgN (nmRd (Rdr.mk 0 1 (q3 + 1) (q4 - 1) (o' 0) (o' 7))) [] 0) (rowV encB q0)) 10) (ce' (AV.rens (nmRd (Rdr.mk 0 1 (q3 + 1 + 4 + (two (o' 7) q1 q2).size) (q4 - 1 - 4 - (two (o' 7) q1 q2).size) (o' 0) (o' 0))) (rowV encB q0)) 10))))))
abbrev k103' (q0 : Bs) (q1 q2 : Δ) (q3 q4 : Nat) (q5 : Int) : Cnd := ((p' (LsP q0 (two (o' 7) q1 q2) (Rdr.mk 0 1 (q3 + 1) (q4 - 1) (o' 0) (o' 7)))).a ((vw' [pt' 0 0]).a ((ow' (ce' [AV.slice 1 (q3 + 1) (q4 - 1) 1 (Cp.lo (q4 - 1)),v' (vi' u8' (o' 0)),i' 7,i' 0] 284)).a (f' (OW (ce' (AV.rens (sgN (nmRd (Rdr.mk 0 1 q3 q4 q5 (o' 0))) [] 0) (rowV encB q0)) 10) (ce' (AV.rens (nmRd (Rdr.mk 0 1 (q3 + 1) (q4 - 1) (o' 0) (o' 7))) (rowV encB q0)) 10))))))
abbrev k104' (q0 : Bs) (q1 : Bool) (q2 q3 : Nat) (q4 : Int) : Cnd := ((p' (BtP q0 q1 (Rdr.mk 0 1 q2 q3 q4 (o' 0)))).a ((vw' [pt' 0 0]).a ((ow' (ce' [AV.slice 1 q2 q3 1 (Cp.lo q3),v' (vi' u8' q4),i' 0,i' 0] 284)).a (f' (OW (ce' (rowV encB q0) 10) (ce' (AV.rens (nmRd (Rdr.mk 0 1 q2 q3 q4 (o' 0))) (rowV encB q0)) 10))))))
abbrev k105' (q0 : Nat) : Cnd := (wb' (decide (↑q0 > o' 0)) j')
theorem eV' (e : Bs) (o n : Nat) (w : Int) (k v : Δ) (d : Bool) (F : HP) : AW' [(fRb, cRb e d), (fRl, cRl e k v)] hDc [] default fDc (A3' fDc 2) (tms 0 26 (aDc nilS)) (oDc e o n w) kDc [2, 4] F = VT.leaf (AX.normal,[AV.slice 1102 0 1 3 (Cp.lo 1),pt' 0 0],26) [some (ce' [AV.slice 1 (o + 1 + 4 + (two (o' 7) k v).size + 4 + (two (o' 0) k v).size) (n - 1 - 4 - (two (o' 7) k v).size - 4 - (two (o' 0) k v).size) 1 (Cp.lo (n - 1 - 4 - (two (o' 7) k v).size - 4 - (two (o' 0) k v).size)),v' (vi' u8' (o' 0)),i' 0,i' 0] 284),some (ce' (AV.rens (sgN (nmRd (Rdr.mk 0 1 (o + 1 + 4 + (two (o' 7) k v).size) (n - 1 - 4 - (two (o' 7) k v).size) (o' 0) (o' 0))) [] 0) (rowV encB e)) 10),none,some (ce' [s' (two (o' 7) k v),s' (two (o' 0) k v),b' d] 58),some (ce' [s' (two (o' 7) k v),s' (two (o' 0) k v),b' d] 58),some (ce' [s' (two (o' 7) k v),s' (two (o' 0) k v),b' d] 58),none] 1103 (k84'.a ((k105' n).a ((k104' e d o n w).a ((k103' e k v o n w).a ((k102' e k v o n).a (k7'.a (k101'.a (k5'.a ((k100' k v d).a (k8'.a k1')))))))))) := χ
theorem eU' (e : Bs) (o n m : Nat) (w : Int) (L : List Chg) (k v : Δ) (d : Bool) (F : HP) : AW' [(fRb, cRb e d), (fRl, cRl e k v)] hDc [] default fDc (A3' fDc 2) (tms 0 26 (aDc (sC 1051 m))) (oDc e o n w ++ [(1051, rC L)]) kDc [2, 4] F = VT.leaf (AX.normal,[AV.slice 1102 0 (m + 1) 3 (Cp.lo (m + 1)),pt' 0 0],26) [some (ce' [AV.slice 1 (o + 1 + 4 + (two (o' 7) k v).size + 4 + (two (o' 0) k v).size) (n - 1 - 4 - (two (o' 7) k v).size - 4 - (two (o' 0) k v).size) 1 (Cp.lo (n - 1 - 4 - (two (o' 7) k v).size - 4 - (two (o' 0) k v).size)),v' (vi' u8' (o' 0)),i' 0,i' 0] 284),some (ce' (AV.rens (sgN (nmRd (Rdr.mk 0 1 (o + 1 + 4 + (two (o' 7) k v).size) (n - 1 - 4 - (two (o' 7) k v).size) (o' 0) (o' 0))) [] 0) (rowV encB e)) 10),none,some (ce' [s' (two (o' 7) k v),s' (two (o' 0) k v),b' d] 58),some (ce' [s' (two (o' 7) k v),s' (two (o' 0) k v),b' d] 58),some (ce' (List.take (m * 3) (List.drop 0 (rowV chV L)) ++ [s' (two (o' 7) k v),s' (two (o' 0) k v),b' d]) 58),none] 1103 (k84'.a ((k105' n).a ((k104' e d o n w).a ((k103' e k v o n w).a ((k102' e k v o n).a (k7'.a (k101'.a (k5'.a ((k100' k v d).a ((tt'.a (tt'.a (tt'.a (tt'.a ((p' ((0 + m * 3).ble (rowV chV L).length = true)).a ((p' (((m + 1) * 40).ble 140737488355328 = true)).a ((p' ((m + 1).ble 9223372036854775807 = true)).a (f' ((List.take (m * 3) (List.drop 0 (rowV chV L))).length.beq (m * 3) = true))))))))).a k1')))))))))) := χ
theorem eT' (e : Bs) (o n m : Nat) (w : Int) (L : List Chg) (F : HP) : AW' [] (A6' [hf' fDc 2 2]) [] default fDc (A3' fDc 2) (tms 0 26 (aDc (sC 1051 m))) (oDc e o n w ++ [(1051, rC L)]) kDc [2, 4] F = VT.leaf (AX.exit 0,[AV.slice 1051 0 m 3 (Cp.lo m),pt' 0 0],26) [some (ce' [AV.slice 1 o n 1 (Cp.lo n),v' (vi' u8' w),i' 0,i' 0] 284),some (ce' (rowV encB e) 10),some (ce' (rowV chV L) 58),none,none,none,none] 1100 (k84'.a ((wb' (decide (↑n > o' 0)) g').a k1')) := χ
def gDc : List AV -> AP (Nat × Nat) := fun tms => match tms.getD 4 AV.undef with
 | .ptr r 0 => .read r fun x => match x with
  | .cells (.slice j _ _ _ _ :: _) _ => .ret (r, j)
  | _ => .fail "reader"
 | _ => .fail "reader"
def nmDc (p : Nat × Nat) (k : Nat) : Nat := match k with
 | 0 => p.1
 | 1 => p.2
 | k => k
def lDc (e : Bs) (n m : Nat) (l : List Chg) : List AV -> AP (AX × List AV) := mkL gDc (fun _ => True) nmDc (fun _ => tms 0 26 (aDc nilS)) (fun _ => oDc e 0 n 0) (fun _ => .leaf (.exit 0) (tms 0 26 [(2, sC 1051 m)]) [(1051, rC l)])
def cClW (a : Addr) (n c : Nat) (l : Bs) : List AV -> Option (AP AV) := mkC (fun _ => .ret ()) (fun _ => True) (fun _ k => k) (fun _ => [slV (some a) n c]) (fun _ => []) (fun _ => .leaf .ret [sB 1000 n] [(1000, rB l)])
theorem eS' (W : World) (a : Addr) (n c m : Nat) (e : Bs) (l : List Chg) (F : HP) : wRun [(fCl, cClW a n c e)] BA' [(fDc, 2, A3' fDc 2, lDc e n m l)] W fDc [slV (some a) n c] [] [1100, 1101, 1102, 1103] F = VT.leaf (AV.tuple [AV.slice 1102 0 m 3 (Cp.lo m),b' true]) [none,none,some (ce' (AV.rens (sgN (nmDc (1101,1100)) [1051] 1102) (rowV chV l)) 58),none] 1103 ((((Cnd.p True).a (f' (VW [v' (sl' (some a) n c)] [v' (sl' (some a) n c)]))).a t').a ((p' ((fDc,2,A3' fDc 2,lDc e n m l).snd.snd.fst = (fDc,2,A3' fDc 2,lDc e n m l).snd.snd.fst)).a (k4'.a ((p' (VW (v' (sl' (some a) n c)::u'::e'::b' false::pt' 1101 0::u'::v' (sl' (some a) n c)::pt' 1101 0::ru16 (u'::u'::[])) (a'::a'::e'::a'::pt' 1101 0::ra16 (ra4 (a'::[]))))).a ((ow' (ce' [AV.slice 1100 0 n 1 (Cp.lo n),v' (vi' u8' (o' 0)),i' 0,i' 0] 284)).a ((p' (OW (ce' (AV.rens (sgN (fun k => k) [1000] 1100) (rowV encB e)) 10) (ce' (AV.rens (nmDc (1101,1100)) (rowV encB e)) 10))).a k1')))))) := χ
theorem eR' (W : World) (c : Nat) (F : HP) : wRun [] (A6' [ht' fCl 1 1, hf' fDc 2 2]) [] W fDc [slV none 0 c] [] [] F = VT.leaf (AV.tuple [e',b' true]) [] 1101 ((((f' (Wk (b' true) j')).a t').a t').a (h56' k1')) := χ
theorem eQ' (W : World) (a : Addr) (c : Nat) (F : HP) : wRun [] (A6' [hf' fCl 1 1, (fCl, 3, 2, h0), hf' fDc 2 2]) [] W fDc [slV (some a) 0 c] [] [] F = VT.leaf (AV.tuple [e',b' true]) [] 1102 ((((f' (Wk (b' false) g')).a ((fe' 0).a t')).a t').a (h56' k1')) := χ
end
theorem aP' (us tr : Int) (pp nk ck : Nat) (ok : Option Addr) (da sa : Bs) (PV : AV) (O : AO) (hb : sa.length <= big) (hp : 0 < sa.length) (hPV : ∀ l : List (Nat × Nat), PV.ren (sg ([(1001, 1001), (1002, 1002), (1003, 1003), (1004, 1004), (1005, 1005)] ++ l)) = PV) (hO : ∀ l : List (Nat × Nat), O.ren (sg ([(1001, 1001), (1002, 1002), (1003, 1003), (1004, 1004), (1005, 1005)] ++ l)) = O) :
  LTri Θ default (A3' fCr 3) (tms 0 120 aRg) (uDO PV O us pp sa.length da sa ++ oRg0 ok nk ck tr) (.exit 0) (tms 0 120 [(0, .ptr 0 0), (3, .ptr 1010 0), (4, nilS), (5, .map 1011)]) (uDO PV O us pp sa.length da sa ++ [(1010, UW' ok nk ck tr), (1011, lfM (sB 1012 sa.length)), (1012, rB sa)]) := by
 refine B6' (W := default) (g := fCr) (b := A3' fCr 3) (σ := Bool) 120 (fun _ => aRg) (fun s => match s with | false => uDO PV O us pp sa.length da sa ++ oRg0 ok nk ck tr | true => uDO PV O us pp sa.length da sa ++ oRg1 ok nk ck tr sa.length sa) (.exit 0) [(0, .ptr 0 0), (3, .ptr 1010 0), (4, nilS), (5, .map 1011)] (uDO PV O us pp sa.length da sa ++ [(1010, UW' ok nk ck tr), (1011, lfM (sB 1012 sa.length)), (1012, rB sa)]) (fun s => match s with | false => 1 | true => 0) kRg [0, 3, 4, 5, 19] (by intro h; cases h) (fun s => by cases s <;> rfl) rfl ?_ false; intro s
 cases s with
 | false =>
  refine ⟨[(fCl, cClB sa.length sa)], A6' [ht' fCr 3 1], [], fun F hF => BJ' (GB' hb hp F), fun _ _ => noL, fun F => ?_⟩
  refine Yj (bX' us tr pp sa.length nk ck ok da sa PV O F) ⟨⟨?_, rfl, .inl ⟨rfl, true, Nat.lt_succ_self 0, [(1001, 1001), (1002, 1002), (1003, 1003), (1004, 1004), (1005, 1005), (1010, 1010), (1011, 1011), (1012, 1100), (1014, 1014)], by kernel_rfl, by kernel_rfl, ⟨Ya, Ya, Ya, Ya, Ya, Ye⟩, ⟨_, rfl, OW.of_eq ?_⟩, ⟨_, rfl, Yc⟩, ⟨_, rfl, Yc⟩, ⟨_, rfl, AQ' rfl rfl⟩, ⟨_, rfl, AQ' (A5' _ _) rfl⟩, ⟨_, rfl, OW.of_eq (hO _).symm⟩, ⟨_, rfl, Yc⟩, ⟨_, rfl, Yc⟩, ⟨_, rfl, AQ' (A5' _ _) rfl⟩, ⟨_, rfl, Yc⟩, Ye⟩⟩⟩
  ·simp only [ch', true_and, and_true]; and_intros; all_goals first | (with_reducible exact Ye) | (with_reducible exact rfl) | (with_reducible exact Yb) | exact JX' _ | exact A2' rfl | exact Kc29'
  ·simp only [dkC, AO.ren, AV.rens]; have := hPV [(1010, 1010), (1011, 1011), (1012, 1100), (1014, 1014)]; simp only [List.cons_append, List.nil_append] at this; rw [this]; rfl
 | true =>
  refine ⟨[], A6' [hf' fCr 3 1], [], fun _ _ => noC, fun _ _ => noL, fun F => ?_⟩
  refine Yj (bW' us tr pp sa.length nk ck ok da sa PV O F) ⟨⟨?_, rfl, .inr ⟨rfl, [(1001, 1001), (1002, 1002), (1003, 1003), (1004, 1004), (1005, 1005), (1010, 1010), (1011, 1011), (1012, 1012)], by kernel_rfl, by kernel_rfl, ⟨Ya, Ya, Ya, Ya, Ye⟩, ⟨_, rfl, OW.of_eq ?_⟩, ⟨_, rfl, Yc⟩, ⟨_, rfl, Yc⟩, ⟨_, rfl, AQ' rfl rfl⟩, ⟨_, rfl, AQ' rfl rfl⟩, ⟨_, rfl, OW.of_eq (hO _).symm⟩, ⟨_, rfl, Yc⟩, ⟨_, rfl, Yc⟩, ⟨_, rfl, AQ' rfl rfl⟩, Ye⟩⟩⟩
  ·simp only [ch', and_true]; exact A2' rfl
  ·simp only [dkC, AO.ren, AV.rens]; have := hPV [(1010, 1010), (1011, 1011), (1012, 1012)]; simp only [List.cons_append, List.nil_append] at this; rw [this]; rfl
theorem b4' (n : Nat) (R : Bs) : LTri Θ default (A3' fCr 20) (tms 0 120 aOt0) (oOt0 n R) (.exit 6) (tms 0 120 [(4, .slice 1016 0 1 2 (.lo 1))]) [(1012, rB R), (1016, .cells [sv nm1, sB 1012 n] tAf)] := by
 refine B6' (W := default) (g := fCr) (b := A3' fCr 20) (σ := Bool) 120 (fun s => match s with | false => aOt0 | true => aOt1) (fun s => match s with | false => oOt0 n R | true => oOt1 n R) (.exit 6) [(4, .slice 1016 0 1 2 (.lo 1))] [(1012, rB R), (1016, .cells [sv nm1, sB 1012 n] tAf)] (fun s => match s with | false => 1 | true => 0) kOt [4, 5, 104, 105, 106] (by intro h; cases h) (fun s => by cases s <;> rfl) rfl ?_ false; intro s
 cases s with
 | false =>
  refine ⟨[], A6' [ht' fCr 20 0, (fCr, 23, 0, hv (iv 1))], [], fun F hF => noC, fun _ _ => noL, fun F => ?_⟩
  refine Yj (dJ' n R F) ⟨⟨?_, rfl, .inl ⟨rfl, true, Nat.lt_succ_self 0, [(1011, 1011), (1012, 1012), (1015, 1015), (1016, 1101)], by kernel_rfl, by kernel_rfl, ⟨Ya, Ya, Ya, Ya, Ya, Ye⟩, ⟨_, rfl, Yc⟩, ⟨_, rfl, AQ' rfl rfl⟩, ⟨_, rfl, Yc⟩, ⟨_, rfl, Yc⟩, Ye⟩⟩⟩
  simp only [ch', true_and, and_true]; and_intros; all_goals first | (with_reducible exact Ye) | (with_reducible exact rfl) | exact A2' rfl | exact Ya | exact rfl
 | true =>
  refine ⟨[], A6' [hf' fCr 20 0], [], fun _ _ => noC, fun _ _ => noL, fun F => ?_⟩
  refine Yj (dI' n R F) ⟨⟨?_, rfl, .inr ⟨rfl, [(1012, 1012), (1016, 1016)], by kernel_rfl, by kernel_rfl, ⟨Ya, Ye⟩, ⟨_, rfl, AQ' rfl rfl⟩, ⟨_, rfl, Yc⟩, Ye⟩⟩⟩
  simp only [ch', and_true]; exact A2' rfl
theorem Z5' (n : Nat) (R : Bs) (F : HP) (hF : AH' W F) : L1OK Θ F (A3' fCr 20) (lOt n R) :=
 BV' (W := default) AZ' (fun args => by
  split
  ·refine RO.read _ _ fun o => ?_
   split <;> first | exact RO.ret _ | exact RO.fail _
  ·exact RO.fail _) (fun _ _ => b4' n R) fun _ => by
  simp only [RT.pick]; exact BD' rfl rfl (A0' Ye (A0' rfl (A0' rfl (A0' Ye (A0' Ye A1'))))) (A0' ⟨Ye, rfl, Ye⟩ (A0' (AR' _ _) (A0' ⟨Ye, Ye⟩ A1'))) (A0' rfl A1') (A0' (AR' _ _) (A0' ⟨Ye, rfl, Ye⟩ A1'))
theorem Z4' {W : World} (us tr : Int) (pp nk ck : Nat) (ok : Option Addr) (da sa : Bs) (PV : AV) (O : AO) (hb : sa.length <= big) (hp : 0 < sa.length) (hPV : ∀ l : List (Nat × Nat), PV.ren (sg ([(1001, 1001), (1002, 1002), (1003, 1003), (1004, 1004), (1005, 1005)] ++ l)) = PV) (hO : ∀ l : List (Nat × Nat), O.ren (sg ([(1001, 1001), (1002, 1002), (1003, 1003), (1004, 1004), (1005, 1005)] ++ l)) = O)
  (cPV : ∀ K : Nat -> Bool, K 1005 = true -> AV.cl K PV) (cO : ∀ K, O.cl K) (F : HP) : L1OK Θ F (A3' fCr 3) (lRg us tr pp sa.length nk ck ok da sa PV O) :=
 BV' (W := default) AZ' (fun args => by split <;> first | exact RO.ret _ | exact RO.fail _) (fun _ _ => aP' us tr pp nk ck ok da sa PV O hb hp hPV hO) fun _ => by
  simp only [RT.pick]
  exact BD' rfl rfl (A0' rfl (A0' rfl (A0' Ye (A0' rfl (A0' rfl A1')))))
   (A0' ⟨rfl, cPV _ rfl, Ye, Ye, Ye⟩ (A0' ⟨Ye, rfl, Ye⟩ (A0' ⟨rfl, rfl, Ye⟩ (A0' (AR' _ _) (A0' (AR' _ _) (A0' (cO _) (A0' ⟨Ye, Ye, Ye⟩ (A0' Ye (A0' rfl A1')))))))))
   (A0' rfl (A0' rfl (A0' Ye (A0' rfl A1'))))
   (A0' ⟨rfl, cPV _ rfl, Ye, Ye, Ye⟩ (A0' ⟨Ye, rfl, Ye⟩ (A0' ⟨rfl, rfl, Ye⟩ (A0' (AR' _ _) (A0' (AR' _ _) (A0' (cO _) (A0' ⟨Ye, Ye, Ye⟩ (A0' ⟨Ye, rfl, Ye⟩ (A0' (AR' _ _) A1')))))))))
theorem gCr_ro : ∀ args, RO (gCr args) := fun args => by
 unfold gCr; split
 ·refine RO.read _ _ fun o => ?_
  split
  ·refine RO.read _ _ fun o => ?_
   split
   ·refine RO.read _ _ fun o => ?_
    split
    ·refine RO.read _ _ fun o => ?_
     split <;> first | exact RO.ret _ | exact RO.fail _
    ·exact RO.fail _
   ·exact RO.fail _
  ·exact RO.fail _
 ·exact RO.fail _
theorem lCr_ok {ok : Option Addr} {kp : List Bool} {o : Nat} {xs : List Rs} {sa : Bs} (K : CrK W ok kp o xs sa) (us tr : Int) (pp ck : Nat) (da R : Bs) (hR : crS kp tr xs.length o 0 sa (xs.map (·.d)) = R) (F : HP) (hF : AH' W F) : L1OK Θ F (A3' fCr 7) (lCr us tr pp sa.length xs.length kp.length ck R.length ok da sa sa R (pwV o xs)) :=
 BV' hF gCr_ro (fun _ _ => gG' K us tr pp sa.length ck da sa R hR) fun _ => by
  simp only [RT.pick]
  exact BD' rfl rfl (A0' rfl (A0' rfl (A0' Ye (A0' rfl (A0' rfl (A0' Ye (A0' Ye A1')))))))
   (A0' ⟨rfl, rfl, Ye, Ye, Ye⟩ (A0' ⟨Ye, rfl, Ye⟩ (A0' ⟨rfl, rfl, Ye⟩ (A0' (AR' _ _) (A0' (AR' _ _) (A0' (C1' _ _) (A0' ⟨Ye, Ye, Ye⟩ (A0' ⟨Ye, rfl, Ye⟩ (A0' (AR' _ _) A1')))))))))
   (A0' rfl (A0' Ye (A0' rfl A1')))
   (A0' ⟨rfl, rfl, Ye, Ye, Ye⟩ (A0' ⟨Ye, rfl, Ye⟩ (A0' ⟨rfl, rfl, Ye⟩ (A0' (AR' _ _) (A0' (AR' _ _) (A0' (C1' _ _) (A0' ⟨Ye, Ye, Ye⟩ (A0' ⟨Ye, rfl, Ye⟩ (A0' (AR' _ _) A1')))))))))
def outH (n : Nat) (R : Bs) : LH := [(1030, .cells [sv nm1, sB 1031 n] tAf), (1031, rB R)]
theorem cr_run {ok : Option Addr} {kp : List Bool} {o : Nat} {xs : List Rs} {sa : Bs} (K : CrK W ok kp o xs sa) (hp : 0 < sa.length) (hz : 0 < xs.length) (us tr : Int) (pp ck : Nat) (da R : Bs) (hR : crS kp tr xs.length o 0 sa (xs.map (·.d)) = R) :
  Tri Θ W fCr [.ptr 0 0, EX' ok kp.length ck tr] (uDO (pV xs.length) (.cells (vmap (pwV o xs)) tPw) us pp sa.length da sa) (.slice 1030 0 1 2 (.lo 1)) (outH R.length R) := by
 have hb : sa.length <= big := by have := K.sa; have := K.sz; show _ <= 140737488351232; omega
 have q1 := fun F => Z4' (W := W) us tr pp kp.length ck ok da sa (pV xs.length) (.cells (vmap (pwV o xs)) tPw) hb hp (fun l => rfl) (fun l => by simp only [AO.ren, AS']) (fun K h => h) (fun K => C1' _ _) F
 have q2 := fun F hF => lCr_ok K us tr pp ck da R hR F hF
 have q3 := fun F hF => Z5' (W := W) R.length R F hF
 refine AF' (con := [(fSo, cSo)]) (hints := BA') (lc := [(fCr, 3, A3' fCr 3, lRg us tr pp sa.length kp.length ck ok da sa (pV xs.length) (.cells (vmap (pwV o xs)) tPw)), (fCr, 7, A3' fCr 7, lCr us tr pp sa.length xs.length kp.length ck R.length ok da sa sa R (pwV o xs)), (fCr, 20, A3' fCr 20, lOt R.length R)]) kC6 χ (fun F _ => BJ' (RZ' F)) (fun F hF x hx => by
  rcases List.mem_cons.1 hx with rfl | hx
  ·exact q1 F
  ·rcases List.mem_cons.1 hx with rfl | hx
   ·exact q2 F hF
   ·obtain rfl := List.mem_singleton.1 hx
    exact q3 F hF) fun F => ?_
 refine Yj (eZ' W us tr pp sa.length xs.length kp.length ck R.length ok da sa R (pwV o xs) F) ⟨⟨?_, (AO' (vs' := [.slice 1030 0 1 2 (.lo 1)]) (H' := [(1030, .cells [sv nm1, sB 1031 R.length] tAf), (1031, rB R)]) [(1030, 1122), (1031, 1121)] χ χ (Yb) ⟨⟨_, rfl, Yc⟩, ⟨_, rfl, AQ' (A5' _ _) rfl⟩, Ye⟩).fits χ⟩⟩; clear q1 q2 q3
 simp only [ch', true_and, and_true]; and_intros; all_goals exact Kc24'
theorem gF' (ok : Option Addr) (us tr : Int) (pp nk ck : Nat) (da sa : Bs) (hb : sa.length <= big) (hp : 0 < sa.length) :
  Tri Θ default fCr [.ptr 0 0, EX' ok nk ck tr] (uDO nilS dumZ us pp sa.length da sa) (.slice 1030 0 1 2 (.lo 1)) (outH sa.length sa) := by
 have q1 := fun F => Z4' (W := default) us tr pp nk ck ok da sa nilS dumZ hb hp (fun l => rfl) (fun l => rfl) (fun K h => trivial) (fun K => trivial) F
 have q3 := fun F hF => Z5' (W := default) sa.length sa F hF
 refine AF' (con := [(fSo, cSo)]) (hints := BA') (lc := [(fCr, 3, A3' fCr 3, lRg us tr pp sa.length nk ck ok da sa nilS dumZ), (fCr, 20, A3' fCr 20, lOt sa.length sa)]) kC6 χ (fun F _ => BJ' (RZ' F)) (fun F hF x hx => by
  rcases List.mem_cons.1 hx with rfl | hx
  ·exact q1 F
  ·obtain rfl := List.mem_singleton.1 hx
   exact q3 F hF) fun F => ?_
 refine Yj (eW' us tr pp sa.length nk ck ok da sa dumZ F) ⟨fun h => (by cases h), fun _ => ⟨?_, (AO' (vs' := [.slice 1030 0 1 2 (.lo 1)]) (H' := [(1030, .cells [sv nm1, sB 1031 sa.length] tAf), (1031, rB sa)]) [(1030, 1114), (1031, 1113)] χ χ (Yb) ⟨⟨_, rfl, Yc⟩, ⟨_, rfl, AQ' (A5' _ _) rfl⟩, Ye⟩).fits χ⟩⟩
 clear q1 q3
 simp only [ch', true_and, and_true]; and_intros; all_goals first | (with_reducible exact Ye) | (with_reducible exact rfl) | (with_reducible exact Ya) | (with_reducible exact Yb) | (with_reducible exact Yc) | exact rfl | exact Yc | exact Kc12'
def PZ' (kp : List Bool) (tr : Int) (S rs : List Bs) : Bs := crS kp tr rs.length (cat S).length 0 (cat S) (rs.map BF')
theorem cr_tri (W : World) (S rs : List Bs) (ok : Option Addr) (kp : List Bool) (ck : Nat) (tr : Int) (hK : KAt W ok kp) (h0 : 0 < (cat S).length) (hz : (cat (S ++ rs)).length <= 1099511627776) (hk : rs.length < 1099511627776) :
  Tri Θ W fCr [.ptr 0 0, EX' ok kp.length ck tr] [(0, dO S rs)] (.slice 1030 0 1 2 (.lo 1)) (outH (PZ' kp tr S rs).length (PZ' kp tr S rs)) := by
 refine UA' (H0 := []) (by rfl) χ fun xs hx => ?_
 have hxl : xs.length = rs.length := by have := congrArg List.length hx; simpa using this
 have hsum : (cat (S ++ rs)).length = (cat S).length + lenR xs := by rw [KT', la', MG' xs rs hx]
 have hRe : crS kp tr xs.length (cat S).length 0 (cat S) (xs.map (·.d)) = PZ' kp tr S rs := by rw [hx, hxl]; rfl
 have hpos : ∀ x ∈ xs, 0 < x.d.length := fun x hxm => by
  have : x.d ∈ rs.map BF' := by rw [<- hx]; exact List.mem_map.2 ⟨x, hxm, rfl⟩
  obtain ⟨r, _, hr⟩ := List.mem_map.1 this; rw [<- hr, BO']; omega
 cases xs with
 | nil =>
  have hs : PZ' kp tr S rs = cat S := hRe.symm; rw [hs]; have := (gF' ok (o' (cat (S ++ rs)).length) tr (cat (S ++ rs)).length kp.length ck (cat (S ++ rs)) (cat S) (by show _ <= 140737488351232; omega) h0); refine Tri.pre ?_ (fun W0 F N w vargs _ => this W0 F N w vargs AZ'); refine KN' χ χ (Yb) (fun i o h => ?_) ⟨rfl, ⟨Ye, Ye, Ye⟩, Ye⟩ (A0' ⟨rfl, Ye, Ye, Ye, Ye⟩ (A0' ⟨Ye, rfl, Ye⟩ (A0' ⟨rfl, rfl, Ye⟩ (A0' (AR' _ _) (A0' (AR' _ _) (A0' Ye A1')))))); show getO (uDO nilS dumZ (o' (cat (S ++ rs)).length) (cat (S ++ rs)).length (cat S).length (cat (S ++ rs)) (cat S) ++ [(1006, AO.any (frz (PB [])))]) i = some o; rw [BE', h]
 | cons x xs =>
  have := TN' (P := Θ) (W := W) (f := fCr) (A := [.ptr 0 0, EX' ok kp.length ck tr]) (H1 := uDO (pV (x :: xs).length) (.cells (vmap (pwV (cat S).length (x :: xs))) tPw) (o' (cat (S ++ rs)).length) (cat (S ++ rs)).length (cat S).length (cat (S ++ rs)) (cat S)) (H1' := outH (PZ' kp tr S rs).length (PZ' kp tr S rs)) (v := .slice 1030 0 1 2 (.lo 1)) (PR := PB (x :: xs)) 1006 δ rfl rfl χ χ
   ⟨rfl, ⟨Ye, Ye, Ye⟩, Ye⟩
   (A0' ⟨rfl, rfl, Ye, Ye, Ye⟩ (A0' ⟨Ye, rfl, Ye⟩ (A0' ⟨rfl, rfl, Ye⟩ (A0' (AR' _ _) (A0' (AR' _ _) (A0' (C1' _ _) A1'))))))
   (fun C C' h hP => hP.mono h)
   (fun W' hW hP => cr_run ⟨⟨hK.le, fun i b hb => by
    obtain ⟨ak, e, q⟩ := hK.at' i b hb
    exact ⟨ak, e, hW _ _ q⟩⟩, hP, hpos, Yd, by omega, by rw [hxl]; exact hk⟩ h0 (by simp) (o' (cat (S ++ rs)).length) tr (cat (S ++ rs)).length ck (cat (S ++ rs)) (PZ' kp tr S rs) hRe)
  refine Tri.post this ?_; exact KN' χ χ (Yb) (fun i o h => by rw [BE', h]) ⟨rfl, Ye⟩ (A0' ⟨Ye, rfl, Ye⟩ (A0' (AR' _ _) A1'))
abbrev fDf : Nat := 89
abbrev fIx : Nat := 113
abbrev fGe : Nat := 51
abbrev fRd : Nat := 52
abbrev fCu : Nat := 55
theorem eO' (F : HP) : wRun [] (A6' [hf' fIx 2 0, ht' fDf 2 1]) [] default fDf [nilS, .any] [] [] F = VT.leaf (e') [] 1100 (((f' (Wk (b' false) g')).a t').a (k22'.a k1')) := χ
def aDo0 : List (Nat × AV) := [(6, .ptr 1040 0), (7, sv ⟨⟨[]⟩⟩), (14, .slice 1030 0 1 2 (.lo 1)), (15, iv 1), (16, iv 0)]
def aDo1 : List (Nat × AV) := [(6, .ptr 1040 0), (7, sv nm1), (14, .slice 1030 0 1 2 (.lo 1)), (15, iv 1), (16, iv 1)]
def oDo0 (n : Nat) (R : Bs) : LH := outH n R ++ [(1040, .cells [.map 1041, nilS, iv 1099511627776, iv 0] tDk), (1041, .map [] 0)]
def oDo1 (n : Nat) (R : Bs) : LH := outH n R ++ [(1040, .cells [.map 1041, nilS, iv 1099511627776, iv (o' n)] tDk), (1041, .map [(sv nm1, .ptr 1042 0, 0)] 1), (1042, .cells [sB 1043 n, sB 1044 n] tFi), (1043, rB R), (1044, rB R)]
def kDo : List Nat := [1030, 1031, 1040, 1041, 1042, 1043, 1044, 1100, 1101, 1102, 1103, 1104, 1105, 1106]
theorem eN' (n : Nat) (R : Bs) (F : HP) : AW' [(fGn, cGn), (fCl, cClB n R)] (A6' [ht' fDo 4 0, hf' fDo 6 3, hf' fDo 6 4, hf' fDo 8 3, hf' fDo 8 4, (fDo, 12, 7, hv (iv (o' n))), (fDo, 13, 0, hv (iv 1))]) [] default fDo (A3' fDo 4) (tms 0 58 aDo0) (oDo0 n R) kDo [6, 7, 14, 15, 16] F = VT.leaf (AX.normal,[pt' 1040 0,s' nm1,AV.slice 1030 0 1 2 (Cp.lo 1),i' 1,i' 1],58) [some (ce' [s' nm1,AV.slice 1031 0 n 1 (Cp.lo n)] 164),some (ce' (AV.rens (sgN (fun k => match k with | 0 => 1031 | k => k) [1000] 1102) (rowV encB R)) 10),some (ce' [AV.map 1041,e',i' 1099511627776,i' n] 160),some (AO.map [(s' nm1,pt' 1103 0,0)] 1),none,none,none,some (ce' [s' nm1,AV.slice 1031 0 n 1 (Cp.lo n)] 164),some (ce' (AV.rens (sgN (fun k => match k with | 0 => 1031 | k => k) [1000] 1101) (rowV encB R)) 10),some (ce' (AV.rens (sgN (fun k => match k with | 0 => 1031 | k => k) [1000] 1102) (rowV encB R)) 10),some (ce' [AV.slice 1101 0 n 1 (Cp.lo n),AV.slice 1102 0 n 1 (Cp.lo n)] 174),none,none,none] 1104 (h10' ((ee' [s' nm1,AV.slice 1031 0 n 1 (Cp.lo n)]).a (k7'.a (k54'.a (((p' (nm1 = nm1 \/ nm1 = nmL)).a (f' (VW [s' nm1] [s' nm1]))).a (h97' (k54'.a (h97' (k54'.a (k7'.a (k54'.a (k7'.a ((k14' 1031 n R).a (k7'.a (((Cnd.p True).a ((vw' [AV.slice 1031 0 n 1 (Cp.lo n)]).a (f' (OW (ce' (AV.rens (sgN (fun k => match k with | 0 => 1031 | k => k) [1000] 1101) (rowV encB R)) 10) (ce' (AV.rens (fun k => match k with | 0 => 1031 | k => k) (rowV encB R)) 10))))).a (((p' (findKey Tryz.prog (envW [(31,cGn),(32,cClB n R)] (A6' [(13,4,0,hv j'),(13,6,3,hv g'),(13,6,4,hv g'),(13,8,3,hv g'),(13,8,4,hv g'),(13,12,7,hv (i' n)),(13,13,0,hv (i' 1))]) [] default F) 9 (s' nm1) [] 0 = AP.ret none)).a (f' (D6' (s' nm1) []))).a (k50'.a (k7'.a ((f' (Wk (z' (IntKind.i64.wrap (o' 0 + ↑n))) (i' n))).a (k7'.a (k12'.a k1'))))))))))))))))))))) := χ
theorem eM' (n : Nat) (R : Bs) (F : HP) : AW' [] (A6' [hf' fDo 4 0]) [] default fDo (A3' fDo 4) (tms 0 58 aDo1) (oDo1 n R) kDo [6, 7, 14, 15, 16] F = VT.leaf (AX.exit 0,[pt' 1040 0,s' nm1,AV.slice 1030 0 1 2 (Cp.lo 1),i' 1,i' 1],58) [some (ce' [s' nm1,AV.slice 1031 0 n 1 (Cp.lo n)] 164),some (ce' (rowV encB R) 10),some (ce' [AV.map 1041,e',i' 1099511627776,i' n] 160),some (AO.map [(s' nm1,pt' 1042 0,0)] 1),some (ce' [AV.slice 1043 0 n 1 (Cp.lo n),AV.slice 1044 0 n 1 (Cp.lo n)] 174),some (ce' (rowV encB R) 10),some (ce' (rowV encB R) 10),none,none,none,none,none,none,none] 1100 (k5'.a k1') := χ
def lDo (n : Nat) (R : Bs) : List AV -> AP (AX × List AV) := mkL (fun tmps => match tmps.getD 6 .any with
 | .ptr i 0 => .read i fun o => match o with
  | .cells [.map m, _, _, _] _ => .ret [(1040, i), (1041, m)]
  | _ => .fail "disk"
 | _ => .fail "disk") (fun _ => True) nmF (fun _ => tms 0 58 aDo0) (fun _ => oDo0 n R) (fun _ => .leaf (.exit 0) (tms 0 58 [(6, .ptr 1040 0)]) (oDo1 n R))
theorem eL' (n : Nat) (R : Bs) (F : HP) : wRun [] BA' [(fDo, 4, A3' fDo 4, lDo n R)] default fDo [.slice 1030 0 1 2 (.lo 1), iv 1099511627776] (outH n R) [1030, 1031, 1100, 1101, 1102, 1103, 1104, 1105, 1106, 1107, 1108, 1109, 1110] F = VT.leaf (AV.tuple [pt' 1104 0,i' 0]) [none,none,none,none,some (ce' [s' nm1,AV.slice 1103 0 n 1 (Cp.lo n)] 164),some (ce' (AV.rens (sgN (nmF [(1040,1101),(1041,1100)]) [1030,1031,1040,1041,1042,1043,1044] 1102) (rowV encB R)) 10),some (ce' [AV.map 1105,e',i' 1099511627776,i' n] 160),some (AO.map [(s' nm1,pt' 1106 0,0)] 1),some (ce' [AV.slice 1107 0 n 1 (Cp.lo n),AV.slice 1108 0 n 1 (Cp.lo n)] 174),some (ce' (AV.rens (sgN (nmF [(1040,1101),(1041,1100)]) [1030,1031,1040,1041,1042,1043,1044] 1102) (rowV encB R)) 10),some (ce' (AV.rens (sgN (nmF [(1040,1101),(1041,1100)]) [1030,1031,1040,1041,1042,1043,1044] 1102) (rowV encB R)) 10),none,none] 1109 ((p' ((fDo,4,A3' fDo 4,lDo n R).snd.snd.fst = (fDo,4,A3' fDo 4,lDo n R).snd.snd.fst)).a (k4'.a ((p' (VW (AV.slice 1030 0 1 2 (Cp.lo 1)::i' 1099511627776::u'::u'::v' (Value.pointer none)::i' 0::pt' 1101 0::s' y0'::u'::u'::AV.map 1100::i' 1099511627776::AV.agg [AV.map 1100,e',i' 1099511627776,i' 0]::pt' 1101 0::AV.slice 1030 0 1 2 (Cp.lo 1)::i' 1::i' 0::ru16 (ru16 (ru8 (u'::[])))) (ra4 (a'::a'::pt' 1101 0::s' y0'::ra4 (a'::a'::AV.slice 1030 0 1 2 (Cp.lo 1)::i' 1::i' 0::ra16 (ra16 (ra8 (a'::[])))))))).a ((ow' (ce' [s' nm1,AV.slice 1031 0 n 1 (Cp.lo n)] 164)).a ((p' (OW (ce' (rowV encB R) 10) (ce' (AV.rens (nmF [(1040,1101),(1041,1100)]) (rowV encB R)) 10))).a ((ow' (ce' [AV.map 1100,e',i' 1099511627776,i' 0] 160)).a (k88'.a k1'))))))) := χ
theorem df_z : Tri Θ default fDf [nilS, .any] [] nilS [] := by
 refine AF' (con := []) (hints := A6' [hf' fIx 2 0, ht' fDf 2 1]) (lc := []) [] rfl (fun _ _ => noC) (fun F _ => noL) fun F => ?_
 refine Yj (eO' F) ⟨⟨?_, (AO' (vs' := [nilS]) (H' := []) [] rfl rfl (Yb) trivial).fits rfl⟩⟩; simp only [ch', and_true]; exact ⟨A2' rfl, A2' rfl⟩
theorem g7' (n : Nat) (R : Bs) (hn : n = R.length) (hb : n <= 2199023255552) (hp : 0 < n) : LTri Θ default (A3' fDo 4) (tms 0 58 aDo0) (oDo0 n R) (.exit 0) (tms 0 58 [(6, .ptr 1040 0)]) (oDo1 n R) := by
 refine B6' (W := default) (g := fDo) (b := A3' fDo 4) (σ := Bool) 58 (fun s => match s with | false => aDo0 | true => aDo1) (fun s => match s with | false => oDo0 n R | true => oDo1 n R) (.exit 0) [(6, .ptr 1040 0)] (oDo1 n R) (fun s => match s with | false => 1 | true => 0) kDo [6, 7, 14, 15, 16] (by intro h; cases h) (fun s => by cases s <;> rfl) rfl ?_ false; intro s
 cases s with
 | false =>
  have hcl := fun F => GB' (l := R) (by show _ <= 140737488351232; omega) ω F
  rw [<- hn] at hcl
  have hus : IntKind.i64.wrap (o' 0 + (n : Int)) = o' n := by
   rw [IntWalk.i64_in _ (by simp only [Z0]; omega)]; simp only [Z0]; omega
  refine ⟨[(fGn, cGn), (fCl, cClB n R)], A6' [ht' fDo 4 0, hf' fDo 6 3, hf' fDo 6 4, hf' fDo 8 3, hf' fDo 8 4, (fDo, 12, 7, hv (iv (o' n))), (fDo, 13, 0, hv (iv 1))], [], fun F hF => AC' (VB' F) (BJ' (hcl F)), fun _ _ => noL, fun F => ?_⟩
  refine Yj (eN' n R F) ⟨⟨?_, rfl, .inl ⟨rfl, true, Nat.lt_succ_self 0, [(1030, 1030), (1031, 1031), (1040, 1040), (1041, 1041), (1042, 1103), (1043, 1101), (1044, 1102)], by kernel_rfl, by kernel_rfl, ⟨Ya, Ya, Ya, Ya, Ya, Ye⟩, ⟨_, rfl, Yc⟩, ⟨_, rfl, AQ' (A5' _ _) rfl⟩, ⟨_, rfl, Yc⟩, ⟨_, rfl, Yc⟩, ⟨_, rfl, Yc⟩, ⟨_, rfl, AQ' (A5' _ _) rfl⟩, ⟨_, rfl, AQ' (A5' _ _) rfl⟩, Ye⟩⟩⟩
  simp only [ch', true_and, and_true]; and_intros; all_goals first | (with_reducible exact Ye) | (with_reducible exact rfl) | (with_reducible exact Ya) | (with_reducible exact Yb) | (with_reducible exact BG' hus) | exact JX' _ | exact .inl rfl | exact .inl trivial | exact A2' rfl | exact Ya | exact Kc29'
 | true =>
  refine ⟨[], A6' [hf' fDo 4 0], [], fun _ _ => noC, fun _ _ => noL, fun F => ?_⟩
  refine Yj (eM' n R F) ⟨⟨?_, rfl, .inr ⟨rfl, [(1030, 1030), (1031, 1031), (1040, 1040), (1041, 1041), (1042, 1042), (1043, 1043), (1044, 1044)], by kernel_rfl, by kernel_rfl, ⟨Ya, Ye⟩, ⟨_, rfl, Yc⟩, ⟨_, rfl, AQ' rfl rfl⟩, ⟨_, rfl, Yc⟩, ⟨_, rfl, Yc⟩, ⟨_, rfl, Yc⟩, ⟨_, rfl, AQ' rfl rfl⟩, ⟨_, rfl, AQ' rfl rfl⟩, Ye⟩⟩⟩
  simp only [ch', and_true]; exact A2' rfl
theorem lDo_ok {W : World} (n : Nat) (R : Bs) (hn : n = R.length) (hb : n <= 2199023255552) (hp : 0 < n) (F : HP) : L1OK Θ F (A3' fDo 4) (lDo n R) :=
 BV' (W := default) AZ' (fun args => by
  split
  ·refine RO.read _ _ fun o => ?_
   split <;> first | exact RO.ret _ | exact RO.fail _
  ·exact RO.fail _) (fun _ _ => g7' n R hn hb hp) fun _ => by
  simp only [RT.pick]; exact BD' rfl rfl (A0' rfl (A0' Ye (A0' rfl (A0' Ye (A0' Ye A1'))))) (A0' ⟨Ye, rfl, Ye⟩ (A0' (AR' _ _) (A0' ⟨rfl, Ye, Ye, Ye, Ye⟩ (A0' Ye A1')))) (A0' rfl A1') (A0' ⟨Ye, rfl, Ye⟩ (A0' (AR' _ _) (A0' ⟨rfl, Ye, Ye, Ye, Ye⟩ (A0' ⟨Ye, rfl, Ye⟩ (A0' ⟨rfl, rfl, Ye⟩ (A0' (AR' _ _) (A0' (AR' _ _) A1')))))))
def dFL (R : Bs) : LH := uD5 (o' R.length) R.length R.length R R
def dF (R : Bs) : AO := .own (.turns [1]) (exHP (fun _ : Unit => True) (fun _ => dFL R))
theorem do_f (R : Bs) (hb : R.length <= 2199023255552) (hp : 0 < R.length) : Tri Θ default fDo [.slice 1030 0 1 2 (.lo 1), iv 1099511627776] (outH R.length R) (.tuple [.ptr 1000 0, iv 0]) [(1000, dF R)] := by
 have hL := fun F => lDo_ok (W := default) R.length R rfl hb hp F
 refine AF' (con := []) (hints := BA') (lc := [(fDo, 4, A3' fDo 4, lDo R.length R)]) [1030, 1031, 1100, 1101, 1102, 1103, 1104, 1105, 1106, 1107, 1108, 1109, 1110] χ (fun _ _ => noC) (fun F _ => C2' (hL F)) fun F => ?_
 refine Yj (eL' R.length R F) ⟨⟨?_, [.tuple [.ptr 1000 0, iv 0]], [(1000, dkC nilS (o' R.length)), (1001, mpO 0 1), (1002, fiC R.length R.length), (1003, rB R), (1004, rB R)], [(1000, 1104), (1001, 1105), (1002, 1106), (1003, 1107), (1004, 1108)], by kernel_rfl, AO' (vs' := [.tuple [.ptr 1000 0, iv 0]]) (H' := [(1000, dkC nilS (o' R.length)), (1001, mpO 0 1), (1002, fiC R.length R.length), (1003, rB R), (1004, rB R)]) _ χ χ (Yb) ⟨⟨_, rfl, Yc⟩, ⟨_, rfl, Yc⟩, ⟨_, rfl, Yc⟩, ⟨_, rfl, AQ' (A5' _ _) rfl⟩, ⟨_, rfl, AQ' (A5' _ _) rfl⟩, Ye⟩, ?_⟩⟩
 ·clear hL
  simp only [ch', true_and, and_true]; and_intros; all_goals first | (with_reducible exact Ye) | (with_reducible exact rfl) | (with_reducible exact Yc) | exact rfl | exact Yc | exact Kc12'
 ·have := Goes.shutNew (vs := [.tuple [.ptr 1000 0, iv 0]]) (R := fun _ : Unit => True) (L := fun _ => dFL R) (m := .turns [1]) 1000 δ () trivial χ χ ⟨_, _, rfl, by kernel_rfl⟩ ⟨⟨rfl, Ye, Ye⟩, Ye⟩
  have e : renL 1000 (dFL R) = [(1000, dkC nilS (o' R.length)), (1001, mpO 0 1), (1002, fiC R.length R.length), (1003, rB R), (1004, rB R)] := by
   show [(1000, AO.ren _ (dkC nilS (o' R.length))), (1001, AO.ren _ (mpO mSt mCk)), (1002, AO.ren _ (fiC R.length R.length)), (1003, AO.ren _ (rB R)), (1004, AO.ren _ (rB R))] = _; rw [KA']; rfl
  rwa [e] at this
theorem open_f {f : FuncId} {A : List AV} {v : AV} {R : Bs} {H' : LH} (h : Tri Θ W f A (dFL R) v H') : Tri Θ W f A [(0, dF R)] v H' :=
 Tri.open (R := fun _ : Unit => True) (L := fun _ => dFL R) (H0 := []) (fun _ => rfl) (fun _ => A0' ⟨rfl, Ye, Ye, Ye, Ye⟩ (A0' ⟨Ye, rfl, Ye⟩ (A0' ⟨rfl, rfl, Ye⟩ (A0' (AR' _ _) (A0' (AR' _ _) A1'))))) (fun _ => ⟨_, rfl⟩) fun _ _ => by rw [List.append_nil]; exact h
noncomputable section
def lgO (g e : Int) : AO := .cells [.ptr 0 0, sv nmL, iv g, iv e] tLg
def slR (m : Nat) : AV := .slice 1016 0 m 1 (.lo m)
def nm0 : List AV -> AP Nat := fun args => match args with | .slice i _ _ _ _ :: _ => .ret i | _ => .fail "row"
def cWh (n m e : Nat) (R : Bs) (O : AO) : List AV -> Option (AP AV) := mkC nm0 (fun _ => True) nmW (fun _ => [sB 0 n]) (fun _ => [(0, rB R)]) (fun _ => .leaf .ret [.tuple [.slice 1000 0 m 1 (.lo m), iv (o' e)]] [(0, rB R), (1000, O)])
def cClP (e : Nat) (R D : Bs) : List AV -> Option (AP AV) := mkC nm0 (fun _ => True) nmW (fun _ => [.slice 0 0 e 1 (.ex e)]) (fun _ => [(0, rB R)]) (fun _ => .leaf .ret [sB 1000 e] [(0, rB R), (1000, rB D)])
def cCl2 (n e : Nat) (R D : Bs) : List AV -> Option (AP AV) := fun args => match args with
 | [.slice _ _ _ _ (.ex _)] => cClP e R D args
 | _ => cClB n R args
def cDf : List AV -> Option (AP AV) := mkC (fun _ => .ret ()) (fun _ => True) (fun _ k => k) (fun _ => [nilS, .any]) (fun _ => []) (fun _ => .leaf .ret [nilS] [])
def cGe : GP' := [(fCx, cK [sv nm1, sv nmD] (.v (.tuple #[.string nmO, .bool true]))), (fAt, cK [sv nmO] (.v (.tuple #[.int .i64 1, .nilIface]))), (fIt, cK [iv 1] (sv nmO))]
def hGe : List (FuncId × Nat × Nat × Hint) := [(fGe, 1, 5, hv (sv nmD)), hf' fGe 3 1, hf' fGe 3 4, hf' fGe 3 8, hf' fGe 3 12, hf' fGe 3 19, (fFl, 1, 4, hv (sv nmD)), (fFl, 1, 7, hv (sv nm1)), hf' fGe 3 20]
def oDk (n : Nat) (R : Bs) : LH := [(0, dkC nilS (o' n)), (1001, mpO 0 1), (1002, fiC n n), (1003, rB R), (1004, rB R)]
def aOa0 : List (Nat × AV) := [(0, .ptr 0 0), (7, .ptr 1020 0), (8, nilS), (37, .slice 1015 0 1 1 (.lo 1)), (38, iv 1), (39, iv 0)]
def aOa1 (m : Nat) : List (Nat × AV) := [(0, .ptr 0 0), (7, .ptr 1020 0), (8, slR m), (37, .slice 1015 0 1 1 (.lo 1)), (38, iv 1), (39, iv 1)]
def oOa0 (n : Nat) (R : Bs) : LH := oDk n R ++ [(1015, .cells [sv nm1] tSt), (1020, lgO 0 0)]
def oOa1 (n e : Nat) (R : Bs) (O : AO) : LH := oDk n R ++ [(1015, .cells [sv nm1] tSt), (1016, O), (1020, lgO 1 (o' e))]
def kOa : List Nat := [0, 1001, 1002, 1003, 1004, 1015, 1016, 1020, 1100, 1101, 1102, 1103, 1104, 1105]
abbrev k106' : Cnd := ((ee' (s' nmL)).a ((f' (Wk (s' (nmL ++ ByteArray.mk (Array.mk [46]))) (s' nmD))).a (((p' True).a (f' (VW [s' nm1,s' nmD] [s' nm1,s' nmD]))).a (((p' True).a (f' (VW [s' nmO] [s' nmO]))).a ((f' (Wk (b' false) g')).a ((f' (Wk (b' false) g')).a ((f' (Wk (b' false) g')).a ((f' (Wk (b' false) g')).a (((ee' (s' nmL)).a ((f' (Wk (s' (nmL ++ ByteArray.mk (Array.mk [46]))) (s' nmD))).a (((p' True).a (f' (VW [i' 1] [i' 1]))).a ((f' (Wk (s' (nmD ++ nmO)) (s' nm1))).a t')))).a ((f' (Wk (b' false) g')).a ((f' (Wk g' g')).a t')))))))))))
theorem dT' (W : World) (n m e : Nat) (R : Bs) (O : AO) (F : HP) : AW' ((fWh, cWh n m e R O) :: (fCl, cClB n R) :: cGe) (A6' ([ht' fWo 6 0, hf' fWo 9 5, hf' fRd 2 1, ht' fWo 12 2, (fWo, 14, 0, hv (iv 1))] ++ hGe)) [] W fWo (A3' fWo 6) (tms 0 131 aOa0) (oOa0 n R) kOa [0, 7, 8, 37, 38, 39] F = VT.leaf (AX.normal,[pt' 0 0,pt' 1020 0,AV.slice 1101 0 m 1 (Cp.lo m),AV.slice 1015 0 1 1 (Cp.lo 1),i' 1,i' 1],131) [some (ce' [AV.map 1001,e',i' 1099511627776,i' n] 160),some (AO.map [(s' nm1,pt' 1002 0,0)] 1),some (ce' [AV.slice 1003 0 n 1 (Cp.lo n),AV.slice 1004 0 n 1 (Cp.lo n)] 174),some (ce' (AV.rens (sgN (fun k => match k with | 0 => 1003 | k => k) [1000] 1100) (rowV encB R)) 10),some (ce' (rowV encB R) 10),some (ce' [s' nm1] 18),none,some (ce' [pt' 0 0,s' nmL,i' 1,i' e] 216),some (ce' (AV.rens (sgN (nmW 1100) [1000] 1101) (rowV encB R)) 10),some (AO.ren (sgN (nmW 1100) [1000] 1101) O),none,none,none,none] 1102 (h10' (k54'.a (k106'.a (k50'.a (k5'.a (((fe' true).a ((f' (findKey Tryz.prog (envW [(53,cWh n m e R O),(32,cClB n R),(71,cK [s' nm1,s' nmD] (v' (Value.tuple (Array.mk [vs' nmO,vb' true])))),(72,cK [s' nmO] (v' (Value.tuple (Array.mk [vi' I' (o' 1),Value.nilIface])))),(75,cK [i' 1] (s' nmO))] (A6' [(34,6,0,hv j'),(34,9,5,hv g'),(52,2,1,hv g'),(34,12,2,hv j'),(34,14,0,hv (i' 1)),(51,1,5,hv (s' nmD)),(51,3,1,hv g'),(51,3,4,hv g'),(51,3,8,hv g'),(51,3,12,hv g'),(51,3,19,hv g'),(56,1,4,hv (s' nmD)),(56,1,7,hv (s' nm1)),(51,3,20,hv g')]) [] W F) 9 (s' nm1) [(s' nm1,pt' 1002 0,0)] 0 = AP.ret (some (0,pt' 1002 0)))).a ((f' (Wk (b' false) g')).a ((fe' true).a (((Cnd.p True).a ((vw' [AV.slice 1003 0 n 1 (Cp.lo n)]).a (f' (OW (ce' (rowV encB R) 10) (ce' (AV.rens (fun k => match k with | 0 => 1003 | k => k) (rowV encB R)) 10))))).a t'))))).a (((Cnd.p True).a ((vw' [AV.slice 1100 0 n 1 (Cp.lo n)]).a (f' (OW (ce' (AV.rens (sgN (fun k => match k with | 0 => 1003 | k => k) [1000] 1100) (rowV encB R)) 10) (ce' (AV.rens (nmW 1100) (rowV encB R)) 10))))).a ((k105' m).a (h15' (k12'.a k1')))))))))) := χ
theorem dS' (W : World) (n m e : Nat) (R : Bs) (O : AO) (F : HP) : AW' [] (A6' [hf' fWo 6 0]) [] W fWo (A3' fWo 6) (tms 0 131 (aOa1 m)) (oOa1 n e R O) kOa [0, 7, 8, 37, 38, 39] F = VT.leaf (AX.exit 0,[pt' 0 0,pt' 1020 0,AV.slice 1016 0 m 1 (Cp.lo m),AV.slice 1015 0 1 1 (Cp.lo 1),i' 1,i' 1],131) [some (ce' [AV.map 1001,e',i' 1099511627776,i' n] 160),some (AO.map [(s' nm1,pt' 1002 0,0)] 1),some (ce' [AV.slice 1003 0 n 1 (Cp.lo n),AV.slice 1004 0 n 1 (Cp.lo n)] 174),some (ce' (rowV encB R) 10),some (ce' (rowV encB R) 10),some (ce' [s' nm1] 18),some O,some (ce' [pt' 0 0,s' nmL,i' 1,i' e] 216),none,none,none,none,none,none] 1100 (k5'.a k1') := χ
def aOb (m i : Nat) : List (Nat × AV) := [(0, .ptr 0 0), (7, .ptr 1020 0), (8, slR m), (77, .slice 1015 0 1 1 (.lo 1)), (78, iv 1), (79, iv (o' i))]
theorem dR' (n m e : Nat) (R : Bs) (O : AO) (F : HP) : AW' cGe (A6' ([ht' fWo 16 0, ht' fWo 19 1, hf' fWo 19 8, hf' fWo 19 9, (fWo, 21, 0, hv (iv 1))] ++ hGe)) [] default fWo (A3' fWo 16) (tms 0 131 (aOb m 0)) (oOa1 n e R O) kOa [0, 7, 8, 77, 78, 79] F = VT.leaf (AX.normal,[pt' 0 0,pt' 1020 0,AV.slice 1016 0 m 1 (Cp.lo m),AV.slice 1015 0 1 1 (Cp.lo 1),i' 1,i' 1],131) [some (ce' [AV.map 1001,e',i' 1099511627776,i' n] 160),some (AO.map [(s' nm1,pt' 1002 0,0)] 1),some (ce' [AV.slice 1003 0 n 1 (Cp.lo n),AV.slice 1004 0 n 1 (Cp.lo n)] 174),some (ce' (rowV encB R) 10),some (ce' (rowV encB R) 10),some (ce' [s' nm1] 18),some O,some (ce' [pt' 0 0,s' nmL,i' 1,i' e] 216),none,none,none,none,none,none] 1100 (h10' (k54'.a (k106'.a (k22'.a (k30'.a (h97' (k12'.a k1'))))))) := χ
theorem dQ' (n m e : Nat) (R : Bs) (O : AO) (F : HP) : AW' [] (A6' [hf' fWo 16 0]) [] default fWo (A3' fWo 16) (tms 0 131 (aOb m 1)) (oOa1 n e R O) kOa [0, 7, 8, 77, 78, 79] F = VT.leaf (AX.exit 2,[pt' 0 0,pt' 1020 0,AV.slice 1016 0 m 1 (Cp.lo m),AV.slice 1015 0 1 1 (Cp.lo 1),i' 1,i' 1],131) [some (ce' [AV.map 1001,e',i' 1099511627776,i' n] 160),some (AO.map [(s' nm1,pt' 1002 0,0)] 1),some (ce' [AV.slice 1003 0 n 1 (Cp.lo n),AV.slice 1004 0 n 1 (Cp.lo n)] 174),some (ce' (rowV encB R) 10),some (ce' (rowV encB R) 10),some (ce' [s' nm1] 18),some O,some (ce' [pt' 0 0,s' nmL,i' 1,i' e] 216),none,none,none,none,none,none] 1100 (k5'.a k1') := χ
def gOp (x8 x37 : Nat) (tmps : List AV) : AP (List (Nat × Nat)) := match tmps.getD 7 .any, tmps.getD x37 .any with
 | .ptr i 0, .slice j _ _ _ _ => .read 0 fun o => match o with
  | .cells [.map m, _, _, _] _ => .read m fun o => match o with
   | .map [(_, .ptr f 0, _)] _ => .read f fun o => match o with
    | .cells [.slice x _ _ _ _, .slice y _ _ _ _] _ => match tmps.getD x8 .any with
     | .slice q _ _ _ _ => .ret [(1001, m), (1002, f), (1003, x), (1004, y), (1020, i), (1015, j), (1016, q)]
     | _ => .ret [(1001, m), (1002, f), (1003, x), (1004, y), (1020, i), (1015, j)]
    | _ => .fail "file"
   | _ => .fail "files"
  | _ => .fail "disk"
 | _, _ => .fail "log"
def lOa (n m e : Nat) (R : Bs) (O : AO) : List AV -> AP (AX × List AV) := mkL (gOp 8 37) (fun _ => True) nmF (fun _ => tms 0 131 aOa0) (fun _ => oOa0 n R) (fun _ => .leaf (.exit 0) (tms 0 131 [(0, .ptr 0 0), (7, .ptr 1020 0), (8, slR m)]) (oDk n R ++ [(1016, O), (1020, lgO 1 (o' e))]))
def lOb (n m e : Nat) (R : Bs) (O : AO) : List AV -> AP (AX × List AV) := mkL (gOp 8 77) (fun _ => True) nmF (fun _ => tms 0 131 (aOb m 0)) (fun _ => oOa1 n e R O) (fun _ => .leaf (.exit 2) (tms 0 131 [(0, .ptr 0 0), (7, .ptr 1020 0), (8, slR m)]) (oDk n R ++ [(1016, O), (1020, lgO 1 (o' e))]))
def kOp : List Nat := [0, 1001, 1002, 1003, 1004, 1100, 1101, 1102, 1103, 1104, 1105, 1106, 1107, 1108, 1109, 1110, 1111, 1112, 1113, 1114, 1115, 1116, 1117, 1118, 1119, 1120, 1121, 1122, 1123, 1124, 1125, 1116, 1117]
abbrev k107' (q0 q1 q2 : Nat) : Cnd := (ow' (ce' [AV.slice q0 0 q1 1 (Cp.lo q1),AV.slice q2 0 q1 1 (Cp.lo q1)] 174))
abbrev k108' (q0 q1 : Nat) : Cnd := (ow' (ce' [AV.map q0,e',i' 1099511627776,i' q1] 160))
theorem dO' (W : World) (n m e : Nat) (R D : Bs) (O : AO) (F : HP) : wRun [(fGn, cGn), (fCt, cK [sv nmL, sv nmP] (bv false)), (fSo, cSo), (fIt, cK [iv 1] (sv nmO)), (fCl, cCl2 n e R D), (fDf, cDf)] (A6' [hf' fWo 1 2, hf' fWo 1 6, hf' fWo 1 11, ht' fWo 22 4, (fFl, 1, 4, hv (sv nmD)), (fFl, 1, 7, hv (sv nm1)), hf' fCu 2 1, hf' fCu 4 1, hf' fCu 4 9, hf' fCu 4 10, (fCu, 6, 10, hv (iv (o' (n - e)))), (fCu, 6, 11, hv (iv (o' e)))]) [(fWo, 6, A3' fWo 6, lOa n m e R O), (fWo, 16, A3' fWo 16, lOb n m e R O)] W fWo [.ptr 0 0, sv nmL] (oDk n R) kOp F = VT.leaf (AV.tuple [pt' 1116 0,AV.slice 1115 0 m 1 (Cp.lo m),i' 0]) [some (ce' [AV.map 1111,e',i' 1099511627776,i' e] 160),none,none,none,none,none,some (ce' [AV.map 1001] 154),none,none,none,none,none,none,none,some (ce' [AV.map 1103] 154),none,some (AO.map [(s' nm1,pt' 1112 0,0)] 1),some (ce' [AV.slice 1113 0 e 1 (Cp.ex e),AV.slice 1117 0 e 1 (Cp.lo e)] 174),some (ce' (AV.rens (sgN (nmW 1113) [1000] 1117) (rowV encB R)) 10),some (ce' (AV.rens (sgN (nmF [(1001,1103),(1002,1104),(1003,1105),(1004,1106),(1020,1108),(1015,1110),(1016,1107)]) [1001,1002,1003,1004,1016,1020] 1111) (rowV encB R)) 10),some (AO.ren (sgN (nmF [(1001,1103),(1002,1104),(1003,1105),(1004,1106),(1020,1108),(1015,1110),(1016,1107)]) [1001,1002,1003,1004,1016,1020] 1111) O),some (ce' [pt' 0 0,s' nmL,i' 1,i' e] 216),some (ce' (AV.rens (sgN (nmW 1113) [1000] 1117) (rowV encB D)) 10),some (ce' [s' nm1] 18),none,none,none,none,none,none,none,some (ce' [pt' 0 0,s' nmL,i' 1,i' e] 216),some (ce' (AV.rens (sgN (nmW 1113) [1000] 1117) (rowV encB D)) 10)] 1119 (k58'.a (k5'.a (k5'.a (k57'.a (k5'.a (k84'.a ((p' ((fWo,6,A3' fWo 6,lOa n m e R O).snd.snd.fst = (fWo,6,A3' fWo 6,lOa n m e R O).snd.snd.fst)).a (k4'.a ((p' (VW (pt' 0 0::s' nmL::u'::u'::v' (Value.pointer none)::e'::i' 0::pt' 1100 0::e'::ru8 (u'::u'::u'::s' nmL::b' true::g'::g'::s' nmL::i' 7::g'::g'::g'::s' nmL::b' false::g'::pt' 0 0::s' nmL::AV.agg [pt' 0 0,s' nmL,i' 0,i' 0]::pt' 1100 0::pt' 0 0::AV.slice 1102 0 1 1 (Cp.lo 1)::i' 1::i' 0::ru16 (ru16 (ru16 (ru16 (ru16 (ru8 (u'::u'::u'::[])))))))) (pt' 0 0::ra4 (a'::a'::pt' 1100 0::e'::ra16 (ra8 (ra4 (AV.slice 1102 0 1 1 (Cp.lo 1)::i' 1::i' 0::ra16 (ra16 (ra16 (ra16 (ra16 (ra8 (a'::a'::a'::[]))))))))))))).a ((k108' 1001 n).a ((k91' 1002).a ((k107' 1003 n 1004).a ((p' (OW (ce' (rowV encB R) 10) (ce' (AV.rens (nmF [(1001,1001),(1002,1002),(1003,1003),(1004,1004),(1020,1100),(1015,1102)]) (rowV encB R)) 10))).a ((p' (OW (ce' (rowV encB R) 10) (ce' (AV.rens (nmF [(1001,1001),(1002,1002),(1003,1003),(1004,1004),(1020,1100),(1015,1102)]) (rowV encB R)) 10))).a (k81'.a ((ow' (ce' [pt' 0 0,s' nmL,i' 0,i' 0] 216)).a (k84'.a ((p' ((fWo,16,A3' fWo 16,lOb n m e R O).snd.snd.fst = (fWo,16,A3' fWo 16,lOb n m e R O).snd.snd.fst)).a (k4'.a ((p' (VW (pt' 0 0::ra4 (a'::a'::pt' 1108 0::AV.slice 1107 0 m 1 (Cp.lo m)::ra16 (ra16 (ra16 (ra16 (a'::a'::a'::pt' 0 0::AV.slice 1110 0 1 1 (Cp.lo 1)::i' 1::i' 0::ra16 (ra16 (ra16 (a'::a'::a'::[]))))))))) (pt' 0 0::ra4 (a'::a'::pt' 1108 0::AV.slice 1107 0 m 1 (Cp.lo m)::ra16 (ra16 (ra16 (ra16 (ra4 (AV.slice 1110 0 1 1 (Cp.lo 1)::i' 1::i' 0::ra16 (ra16 (ra16 (a'::a'::a'::[])))))))))))).a ((k108' 1103 n).a ((k91' 1104).a ((k107' 1105 n 1106).a ((p' (OW (ce' (AV.rens (sgN (nmF [(1001,1001),(1002,1002),(1003,1003),(1004,1004),(1020,1100),(1015,1102)]) [1001,1002,1003,1004,1016,1020] 1103) (rowV encB R)) 10) (ce' (AV.rens (nmF [(1001,1103),(1002,1104),(1003,1105),(1004,1106),(1020,1108),(1015,1110),(1016,1107)]) (rowV encB R)) 10))).a ((p' (OW (ce' (AV.rens (sgN (nmF [(1001,1001),(1002,1002),(1003,1003),(1004,1004),(1020,1100),(1015,1102)]) [1001,1002,1003,1004,1016,1020] 1103) (rowV encB R)) 10) (ce' (AV.rens (nmF [(1001,1103),(1002,1104),(1003,1105),(1004,1106),(1020,1108),(1015,1110),(1016,1107)]) (rowV encB R)) 10))).a (k81'.a ((p' (OW (AO.ren (sgN (nmF [(1001,1001),(1002,1002),(1003,1003),(1004,1004),(1020,1100),(1015,1102)]) [1001,1002,1003,1004,1016,1020] 1103) O) (AO.ren (nmF [(1001,1103),(1002,1104),(1003,1105),(1004,1106),(1020,1108),(1015,1110),(1016,1107)]) O))).a ((ow' (ce' [pt' 0 0,s' nmL,i' 1,i' e] 216)).a (k30'.a (k22'.a (k30'.a (((ee' (s' nmL)).a ((f' (Wk (s' (nmL ++ ByteArray.mk (Array.mk [46]))) (s' nmD))).a (((Cnd.p True).a (f' (VW [i' 1] [i' 1]))).a ((f' (Wk (s' (nmD ++ nmO)) (s' nm1))).a t')))).a ((k74' e).a (((fe' true).a ((f' (findKey Tryz.prog (envW [(31,cGn),(50,cK [s' nmL,s' nmP] (b' false)),(38,cSo),(75,cK [i' 1] (s' nmO)),(32,cCl2 n e R D),(89,cDf)] (A6' [(34,1,2,hv g'),(34,1,6,hv g'),(34,1,11,hv g'),(34,22,4,hv j'),(56,1,4,hv (s' nmD)),(56,1,7,hv (s' nm1)),(55,2,1,hv g'),(55,4,1,hv g'),(55,4,9,hv g'),(55,4,10,hv g'),(55,6,10,hv (i' (n - e))),(55,6,11,hv (i' e))]) [(34,6,A3' 34 6,lOa n m e R O),(34,16,A3' 34 16,lOb n m e R O)] W F) 9 (s' nm1) [(s' nm1,pt' 1112 0,0)] 0 = AP.ret (some (0,pt' 1112 0)))).a ((f' (Wk (b' false) g')).a ((f' (Wk (b' false) g')).a ((fe' true).a ((wb' (decide (o' e > ↑n)) g').a ((f' (Wk g' g')).a ((ee' (i' n)).a ((fe' true).a ((f' (Wk (z' (IntKind.i64.wrap (↑n - o' e))) (i' (n - e)))).a ((f' (Wk (z' (IntKind.i64.wrap (o' n - o' (n - e)))) (i' e))).a ((fe' true).a ((fe' true).a ((tt'.a ((p' (e.ble e = true)).a (f' (e.ble n = true)))).a ((fe' true).a ((fe' true).a (((Cnd.p True).a ((vw' [AV.slice 1113 0 e 1 (Cp.ex e)]).a (f' (OW (ce' (AV.rens (sgN (nmF [(1001,1103),(1002,1104),(1003,1105),(1004,1106),(1020,1108),(1015,1110),(1016,1107)]) [1001,1002,1003,1004,1016,1020] 1111) (rowV encB R)) 10) (ce' (AV.rens (nmW 1113) (rowV encB R)) 10))))).a ((fe' true).a (((fe' true).a (((Cnd.p True).a (f' (VW [e',AV.func (Fn.func 90) [] [pt' 1118 0]] [e',a']))).a ((fe' true).a t'))).a t'))))))))))))))))))).a k1')))))))))))))))))))))))))))))))))) := χ
end
theorem W5' : ∀ (n : Nat) (b : Bs), b.length <= n -> (cat (AP' b)).length <= b.length := by
 intro n
 induction n with
 | zero =>
  intro b hb; have : b = [] := List.length_eq_zero_iff.1 ω; subst this; rw [CR' rfl]; exact Nat.zero_le _
 | succ n ih =>
  intro b hb
  cases hu : unwB b with
  | none => rw [CR' hu]; exact Nat.zero_le _
  | some d =>
   have hl := JK' hu; have := ih (b.drop (8 + d.length)) (by rw [List.length_drop]; omega); rw [List.length_drop] at this; rw [H0' hu, DS', la', BO']; omega
theorem YY' : ∀ args, RO (nm0 args) := fun args => by unfold nm0; split <;> first | exact RO.ret _ | exact RO.fail _
theorem cWh_ok (hN : LN W) {R : Bs} (hsz : R.length <= 1099511627776) (hw : AP' R ≠ []) (F : HP) (hF : AH' W F) : C1OK Θ F fWh (cWh R.length (AP' R).length (cat (AP' R)).length R (rbO (AP' R))) := by
 have hp : 0 < R.length := by
  cases R with
  | nil => exact absurd (CR' rfl) hw
  | cons x r => exact Nat.succ_pos _
 exact AU' hF (fun _ => .tuple [.slice 1000 0 (AP' R).length 1 (.lo (AP' R).length), iv (o' (cat (AP' R)).length)]) YY' (fun _ => rfl) (fun _ _ => TZ' W hN (pre := []) (H' := [(1000, rbO (AP' R))]) (by show _ <= 140737488351232; omega) hp rfl (fun i o h => by
  simp only [getO] at h ⊢
  by_cases e : i = 1000
  ·subst e; exact ⟨δ, by simp⟩
  ·rw [if_neg e] at h; cases h) fun W' hN' oa c h hc => a4' W' hN' oa c R h hc hsz hw) fun _ => ⟨rfl, rfl, ⟨rfl, Ye⟩, A0' (AR' _ _) A1', ⟨⟨rfl, Ye, Ye⟩, Ye⟩, A0' (AR' _ _) (A0' Ye A1')⟩
theorem SF' {N : A9'} {k n sz : Nat} {cp : Cp} {y : Value} (h : VR N (.slice k 0 n sz cp) y) : ∃ l x c, N k = some l /\ y = .slice (some ⟨l.blk, x, none⟩) n c /\ (0 < n -> x = l.off) := by
 simp only [VR] at h; obtain ⟨l, x, c, h1, h2, h3, h4, h5, h6⟩ := h
 refine ⟨l, x, c, h1, h2, fun hn => ?_⟩
 rcases h3 with h3 | h3
 ·rw [h3, Nat.add_zero]
 ·omega
theorem aR' {N : A9'} {k : Nat} {D : Nat -> Prop} {w : World} {l : Bs} {cp : Cp} {y : Value} (hb : l.length <= big) (he : e <= l.length) (hp : 0 < e) (ho : OR N k (rB l) D w) (h : VR N (.slice k 0 e 1 cp) y) : ∃ a c, y = .slice (some a) e c /\ BAt w.cell? (some a) (l.take e) := by
 obtain ⟨lo, x, c, h1, rfl, h3⟩ := SF' h
 rw [show rB l = .cells (vmap (l.map fun b => .int .u8 b.toNat)) (2 * 5) by rw [rB, CX']] at ho
 obtain ⟨lo', h1', h0, h2⟩ := KS' ho; rw [h1] at h1'; cases h1'
 refine ⟨_, _, rfl, ⟨Nat.le_trans (by rw [List.length_take]; omega) hb, fun i b hi => ⟨_, rfl, ?_⟩⟩⟩
 rw [List.getElem?_take] at hi; split at hi
 ·rw [h3 hp, h0, Nat.mul_one]; have hq := h2 i (.int .u8 b.toNat) (by rw [List.getElem?_map, hi]; rfl)
  have e : ((Addr.mk lo.blk 0 none).add i) = Addr.mk lo.blk i none := by
   unfold Addr.add; split
   ·rename_i hi; subst hi; rfl
   ·show Addr.mk lo.blk (0 + i) none = _; rw [Nat.zero_add]
  rw [e]; exact (GH' hq).2
 ·cases hi
theorem gK' (W : World) {R : Bs} (hb : R.length <= big) (he : e <= R.length) (hp : 0 < e) : Tri Θ W fCl [.slice 0 0 e 1 (.ex e)] [(0, rB R)] (sB 1000 e) [(0, rB R), (1000, rB (R.take e))] := by
 refine TM' (H := [(0, rB R)]) (H' := [(1000, rB (R.take e))]) rfl rfl (fun i o h => by
  simp only [getO] at h ⊢
  by_cases e : i = 1000
  ·subst e; exact ⟨δ, by simp⟩
  ·rw [if_neg e] at h; cases h) fun W0 F N w vargs hF hNB r ha => ?_
 obtain ⟨y, r1, q1, q2, eq⟩ := ha; have q2 : r1 = [] := q2; subst q2; obtain ⟨D, hO⟩ := r.obj (i := 0) (o := rB R) (by rw [AE' χ]; rfl); obtain ⟨a, c, rfl, hB⟩ := aR' hb he hp hO q1; refine ⟨_, eq, ?_⟩
 have hl : (R.take e).length = e := by rw [List.length_take]; omega
 have := RU' w (some a) c (R.take e) hB ω; rw [hl] at this; exact this
theorem hC' {R : Bs} (hb : R.length <= big) (he : e <= R.length) (hp : 0 < e) (F : HP) (hF : AH' W F) : C1OK Θ F fCl (cCl2 R.length e R (R.take e)) := by
 have c1 : C1OK Θ F fCl (cClP e R (R.take e)) := AU' hF (fun _ => sB 1000 e) YY' (fun _ => rfl) (fun _ _ => gK' W hb he hp) fun _ => ⟨rfl, rfl, ⟨rfl, Ye⟩, A0' (AR' _ _) A1', ⟨rfl, Ye⟩, A0' (AR' _ _) (A0' (AR' _ _) A1')⟩
 have c2 := GB' (l := R) hb ω F; intro st W0 N hh w args vargs v h' n n' lg lg' cc p q1 q2 q3 q4 q5 q6; unfold cCl2 at q1; split at q1
 ·exact c1 st W0 N hh w _ vargs v h' n n' lg lg' cc p q1 q2 q3 q4 q5 q6
 ·exact c2 st W0 N hh w _ vargs v h' n n' lg lg' cc p q1 q2 q3 q4 q5 q6
theorem cDf_ok (F : HP) : C1OK Θ F fDf cDf :=
 AU' (W := default) AZ' (fun _ => nilS) (fun _ => RO.ret _) (fun _ => rfl) (fun _ _ => df_z) fun _ => ⟨rfl, rfl, ⟨Ye, Ye, Ye⟩, A1', ⟨Ye, Ye⟩, A1'⟩
theorem ZQ' (F : HP) : ∀ x ∈ cGe, C1OK Θ F x.1 x.2 :=
 AC' (KV' (cx_tri _) (fun K => ⟨Ye, Ye, Ye⟩) (fun K => trivial) F) (AC' (KV' (at_tri _) (fun K => ⟨Ye, Ye⟩) (fun K => trivial) F) (BJ' (KV' (OD' _) (fun K => ⟨Ye, Ye⟩) (fun K => trivial) F)))
theorem bD' (W : World) (n m e : Nat) (R : Bs) (O : AO) (hm : 0 < m) (hO : ∀ σ, O.ren σ = O) (hW : ∀ F, AH' W F -> C1OK Θ F fWh (cWh n m e R O)) (hC : ∀ F, C1OK Θ F fCl (cClB n R)) :
  LTri Θ W (A3' fWo 6) (tms 0 131 aOa0) (oOa0 n R) (.exit 0) (tms 0 131 [(0, .ptr 0 0), (7, .ptr 1020 0), (8, slR m)]) (oDk n R ++ [(1016, O), (1020, lgO 1 (o' e))]) := by
 refine B6' (W := W) (g := fWo) (b := A3' fWo 6) (σ := Bool) 131 (fun s => match s with | false => aOa0 | true => aOa1 m) (fun s => match s with | false => oOa0 n R | true => oOa1 n e R O) (.exit 0) [(0, .ptr 0 0), (7, .ptr 1020 0), (8, slR m)] (oDk n R ++ [(1016, O), (1020, lgO 1 (o' e))]) (fun s => match s with | false => 1 | true => 0) kOa [0, 7, 8, 37, 38, 39] (by intro h; cases h) (fun s => by cases s <;> rfl) rfl ?_ false; intro s
 cases s with
 | false =>
  have hm' : decide ((m : Int) > o' 0) = true := decide_eq_true (by simp only [Z0]; omega)
  refine ⟨(fWh, cWh n m e R O) :: (fCl, cClB n R) :: cGe, A6' ([ht' fWo 6 0, hf' fWo 9 5, hf' fRd 2 1, ht' fWo 12 2, (fWo, 14, 0, hv (iv 1))] ++ hGe), [], fun F hF => AC' (hW F hF) (AC' (hC F) (ZQ' F)), fun _ _ => noL, fun F => ?_⟩
  refine Yj (dT' W n m e R O F) ⟨⟨?_, rfl, .inl ⟨rfl, true, Nat.lt_succ_self 0, [(1001, 1001), (1002, 1002), (1003, 1003), (1004, 1004), (1015, 1015), (1016, 1101), (1020, 1020)], by kernel_rfl, by kernel_rfl, ⟨Ya, Ya, Ya, Ya, Ya, Ya, Ye⟩, ⟨_, rfl, Yc⟩, ⟨_, rfl, Yc⟩, ⟨_, rfl, Yc⟩, ⟨_, rfl, AQ' (A5' _ _) rfl⟩, ⟨_, rfl, AQ' rfl rfl⟩, ⟨_, rfl, Yc⟩, ⟨_, rfl, OW.of_eq (by rw [hO, hO])⟩, ⟨_, rfl, Yc⟩, Ye⟩⟩⟩
  simp only [ch', true_and, and_true]; and_intros; all_goals first | (with_reducible exact Ye) | (with_reducible exact rfl) | (with_reducible exact Ya) | (with_reducible exact Yb) | (with_reducible exact A2' hm') | exact A2' rfl | exact Ya | exact Yb | exact Kc29'
 | true =>
  refine ⟨[], A6' [hf' fWo 6 0], [], fun _ _ => noC, fun _ _ => noL, fun F => ?_⟩
  refine Yj (dS' W n m e R O F) ⟨⟨?_, rfl, .inr ⟨rfl, [(1001, 1001), (1002, 1002), (1003, 1003), (1004, 1004), (1016, 1016), (1020, 1020)], by kernel_rfl, by kernel_rfl, ⟨Ya, Ya, Ya, Ye⟩, ⟨_, rfl, Yc⟩, ⟨_, rfl, Yc⟩, ⟨_, rfl, Yc⟩, ⟨_, rfl, AQ' rfl rfl⟩, ⟨_, rfl, AQ' rfl rfl⟩, ⟨_, rfl, OW.of_eq (hO _).symm⟩, ⟨_, rfl, Yc⟩, Ye⟩⟩⟩
  simp only [ch', and_true]; exact A2' rfl
theorem bC' (n m e : Nat) (R : Bs) (O : AO) (hO : ∀ σ, O.ren σ = O) :
  LTri Θ default (A3' fWo 16) (tms 0 131 (aOb m 0)) (oOa1 n e R O) (.exit 2) (tms 0 131 [(0, .ptr 0 0), (7, .ptr 1020 0), (8, slR m)]) (oDk n R ++ [(1016, O), (1020, lgO 1 (o' e))]) := by
 refine B6' (W := default) (g := fWo) (b := A3' fWo 16) (σ := Bool) 131 (fun s => match s with | false => aOb m 0 | true => aOb m 1) (fun _ => oOa1 n e R O) (.exit 2) [(0, .ptr 0 0), (7, .ptr 1020 0), (8, slR m)] (oDk n R ++ [(1016, O), (1020, lgO 1 (o' e))]) (fun s => match s with | false => 1 | true => 0) kOa [0, 7, 8, 77, 78, 79] (by intro h; cases h) (fun s => rfl) rfl ?_ false; intro s
 cases s with
 | false =>
  refine ⟨cGe, A6' ([ht' fWo 16 0, ht' fWo 19 1, hf' fWo 19 8, hf' fWo 19 9, (fWo, 21, 0, hv (iv 1))] ++ hGe), [], fun F hF => ZQ' F, fun _ _ => noL, fun F => ?_⟩
  refine Yj (dR' n m e R O F) ⟨⟨?_, rfl, .inl ⟨rfl, true, Nat.lt_succ_self 0, [(1001, 1001), (1002, 1002), (1003, 1003), (1004, 1004), (1015, 1015), (1016, 1016), (1020, 1020)], by kernel_rfl, by kernel_rfl, ⟨Ya, Ya, Ya, Ya, Ya, Ya, Ye⟩, ⟨_, rfl, Yc⟩, ⟨_, rfl, Yc⟩, ⟨_, rfl, Yc⟩, ⟨_, rfl, AQ' rfl rfl⟩, ⟨_, rfl, AQ' rfl rfl⟩, ⟨_, rfl, Yc⟩, ⟨_, rfl, OW.of_eq (hO _).symm⟩, ⟨_, rfl, Yc⟩, Ye⟩⟩⟩
  simp only [ch', true_and, and_true]; and_intros; all_goals first | (with_reducible exact Ye) | (with_reducible exact rfl) | (with_reducible exact Ya) | (with_reducible exact Yb) | exact A2' rfl | exact Ya | exact Yb | exact rfl
 | true =>
  refine ⟨[], A6' [hf' fWo 16 0], [], fun _ _ => noC, fun _ _ => noL, fun F => ?_⟩
  refine Yj (dQ' n m e R O F) ⟨⟨?_, rfl, .inr ⟨rfl, [(1001, 1001), (1002, 1002), (1003, 1003), (1004, 1004), (1016, 1016), (1020, 1020)], by kernel_rfl, by kernel_rfl, ⟨Ya, Ya, Ya, Ye⟩, ⟨_, rfl, Yc⟩, ⟨_, rfl, Yc⟩, ⟨_, rfl, Yc⟩, ⟨_, rfl, AQ' rfl rfl⟩, ⟨_, rfl, AQ' rfl rfl⟩, ⟨_, rfl, OW.of_eq (hO _).symm⟩, ⟨_, rfl, Yc⟩, Ye⟩⟩⟩
  simp only [ch', and_true]; exact A2' rfl
theorem ZE' (x8 x37 : Nat) : ∀ args, RO (gOp x8 x37 args) := fun args => by
 unfold gOp; split
 ·refine RO.read _ _ fun o => ?_
  split
  ·refine RO.read _ _ fun o => ?_
   split
   ·refine RO.read _ _ fun o => ?_
    split
    ·split <;> exact RO.ret _
    ·exact RO.fail _
   ·exact RO.fail _
  ·exact RO.fail _
 ·exact RO.fail _
theorem lOa_ok (n m e : Nat) (R : Bs) (O : AO) (hm : 0 < m) (hO : ∀ σ, O.ren σ = O) (cO : ∀ K, O.cl K) (hW : ∀ F, AH' W F -> C1OK Θ F fWh (cWh n m e R O)) (hC : ∀ F, C1OK Θ F fCl (cClB n R)) (F : HP) (hF : AH' W F) : L1OK Θ F (A3' fWo 6) (lOa n m e R O) :=
 BV' hF (ZE' _ _) (fun _ _ => bD' W n m e R O hm hO hW hC) fun _ => by
  simp only [RT.pick]
  exact BD' rfl rfl (A0' rfl (A0' rfl (A0' Ye (A0' rfl (A0' Ye (A0' Ye A1'))))))
   (A0' ⟨rfl, Ye, Ye, Ye, Ye⟩ (A0' ⟨Ye, rfl, Ye⟩ (A0' ⟨rfl, rfl, Ye⟩ (A0' (AR' _ _) (A0' (AR' _ _) (A0' ⟨Ye, Ye⟩ (A0' ⟨rfl, Ye, Ye, Ye, Ye⟩ A1')))))))
   (A0' rfl (A0' rfl (A0' rfl A1')))
   (A0' ⟨rfl, Ye, Ye, Ye, Ye⟩ (A0' ⟨Ye, rfl, Ye⟩ (A0' ⟨rfl, rfl, Ye⟩ (A0' (AR' _ _) (A0' (AR' _ _) (A0' (cO _) (A0' ⟨rfl, Ye, Ye, Ye, Ye⟩ A1')))))))
theorem lOb_ok {W : World} (n m e : Nat) (R : Bs) (O : AO) (hO : ∀ σ, O.ren σ = O) (cO : ∀ K, O.cl K) (F : HP) : L1OK Θ F (A3' fWo 16) (lOb n m e R O) :=
 BV' (W := default) AZ' (ZE' _ _) (fun _ _ => bC' n m e R O hO) fun _ => by
  simp only [RT.pick]
  exact BD' rfl rfl (A0' rfl (A0' rfl (A0' rfl (A0' rfl (A0' Ye (A0' Ye A1'))))))
   (A0' ⟨rfl, Ye, Ye, Ye, Ye⟩ (A0' ⟨Ye, rfl, Ye⟩ (A0' ⟨rfl, rfl, Ye⟩ (A0' (AR' _ _) (A0' (AR' _ _) (A0' ⟨Ye, Ye⟩ (A0' (cO _) (A0' ⟨rfl, Ye, Ye, Ye, Ye⟩ A1'))))))))
   (A0' rfl (A0' rfl (A0' rfl A1')))
   (A0' ⟨rfl, Ye, Ye, Ye, Ye⟩ (A0' ⟨Ye, rfl, Ye⟩ (A0' ⟨rfl, rfl, Ye⟩ (A0' (AR' _ _) (A0' (AR' _ _) (A0' (cO _) (A0' ⟨rfl, Ye, Ye, Ye, Ye⟩ A1')))))))
theorem NX' {a b : List AV} {e : TypeId} (hl : b.length = a.length) (h : VW a b) : OW (.cells a e) (.cells b e) := fun N i D w ho => by
 obtain ⟨l, arr, fz, h1, h2, h3, h4, h5, h6, h7, h8⟩ := ho
 exact ⟨l, arr, fz, h1, h2, h3, h4, by rw [hl]; exact h5, h6, by rw [hl]; exact h N _ h7, h8⟩
def lgX (e : Nat) : AO := .cells [.any, sv nmL, iv 1, iv (o' e)] tLg
theorem op_run (W : World) (n m e : Nat) (R D : Bs) (O : AO) (hm : 0 < m) (he : e <= n) (hz : n <= 2199023255552) (hO : ∀ σ, O.ren σ = O) (cO : ∀ K, O.cl K) (hW : ∀ F, AH' W F -> C1OK Θ F fWh (cWh n m e R O)) (hC : ∀ F, C1OK Θ F fCl (cClB n R)) (hC2 : ∀ F, AH' W F -> C1OK Θ F fCl (cCl2 n e R D)) :
  Tri Θ W fWo [.ptr 0 0, sv nmL] (oDk n R) (.tuple [.ptr 1020 0, slR m, iv 0]) [(1016, O), (1020, lgX e)] := by
 have q1 := fun F hF => lOa_ok (W := W) n m e R O hm hO cO hW hC F hF
 have q2 := fun F => lOb_ok (W := W) n m e R O hO cO F
 have f1 : decide (o' e < o' 0) = false := decide_eq_false (by simp only [Z0]; omega); have f2 : decide (o' e > (n : Int)) = false := decide_eq_false (by simp only [Z0]; omega)
 have f3 : IntKind.i64.wrap ((n : Int) - o' e) = o' (n - e) := by
  rw [IntWalk.i64_in _ (by simp only [Z0]; omega)]; simp only [Z0]; omega
 have f4 : IntKind.i64.wrap (o' n - o' (n - e)) = o' e := by
  rw [IntWalk.i64_in _ (by simp only [Z0]; omega)]; simp only [Z0]; omega
 have f5 : e.ble n = true := AL' he; have f6 : e.ble e = true := AL' (Yd)
 refine AF' (con := [(fGn, cGn), (fCt, cK [sv nmL, sv nmP] (bv false)), (fSo, cSo), (fIt, cK [iv 1] (sv nmO)), (fCl, cCl2 n e R D), (fDf, cDf)]) (hints := A6' [hf' fWo 1 2, hf' fWo 1 6, hf' fWo 1 11, ht' fWo 22 4, (fFl, 1, 4, hv (sv nmD)), (fFl, 1, 7, hv (sv nm1)), hf' fCu 2 1, hf' fCu 4 1, hf' fCu 4 9, hf' fCu 4 10, (fCu, 6, 10, hv (iv (o' (n - e)))), (fCu, 6, 11, hv (iv (o' e)))]) (lc := [(fWo, 6, A3' fWo 6, lOa n m e R O), (fWo, 16, A3' fWo 16, lOb n m e R O)]) kOp χ (fun F hF => AC' (VB' F) (AC' (KV' (ZL' _) (fun K => ⟨Ye, Ye, Ye⟩) (fun K => trivial) F) (AC' (RZ' F) (AC' (KV' (OD' _) (fun K => ⟨Ye, Ye⟩) (fun K => trivial) F) (AC' (hC2 F hF) (BJ' (cDf_ok F))))))) (fun F hF x hx => by
  rcases List.mem_cons.1 hx with rfl | hx
  ·exact q1 F hF
  ·obtain rfl := List.mem_singleton.1 hx
   exact q2 F) fun F => ?_
 refine Yj (dO' W n m e R D O F) ⟨⟨?_, (AO' (vs' := [.tuple [.ptr 1020 0, slR m, iv 0]]) (H' := [(1016, O), (1020, lgX e)]) [(1016, 1115), (1020, 1116)] χ χ (Yb) ⟨⟨_, rfl, OW.of_eq (by rw [hO, hO])⟩, ⟨_, rfl, by exact NX' rfl (VW.cons (Wk.any _) (Yb))⟩, Ye⟩).fits χ⟩⟩; clear q1 q2 hW hC hC2
 simp only [ch', true_and, and_true, hO, f5, f6]; and_intros; all_goals first | (with_reducible exact Ye) | (with_reducible exact rfl) | (with_reducible exact Ya) | (with_reducible exact Yb) | (with_reducible exact Yc) | (with_reducible exact A2' f1) | (with_reducible exact A2' f2) | (with_reducible exact BG' f3) | (with_reducible exact BG' f4) | exact .inr rfl | exact .inr trivial | exact A2' rfl | exact Ya | exact Yc | exact rfl | exact Kc12'
theorem wo_f (W : World) (hN : LN W) (R : Bs) (hz : R.length <= 1099511627776) (hw : AP' R ≠ []) : Tri Θ W fWo [.ptr 0 0, sv nmL] [(0, dF R)] (.tuple [.ptr 1020 0, slR (AP' R).length, iv 0]) [(1016, rbO (AP' R)), (1020, lgX (cat (AP' R)).length)] := by
 have hm : 0 < (AP' R).length := List.length_pos_iff.2 hw
 have hb : R.length <= big := by show _ <= 140737488351232; omega
 have he := W5' R.length R (Yd)
 have he0 : 0 < (cat (AP' R)).length := by
  cases hc : AP' R with
  | nil => exact absurd hc hw
  | cons x r => rw [DS', la', BO']; omega
 refine open_f ?_; exact op_run W R.length (AP' R).length (cat (AP' R)).length R (R.take (cat (AP' R)).length) (rbO (AP' R)) hm he ω (fun σ => rfl) (fun K => trivial) (fun F hF => cWh_ok hN hz hw F hF) (fun F => GB' hb ω F) (fun F hF => hC' hb he he0 F hF)
def rwO (V : List Value) : AO := .cells (vmap V) tRb
def ctY (b : Int) (m : KM) (c : Nat) : LH := [(3, ctO .any 1 b), (1, mO m c)]
def aOr (n i : Nat) : List (Nat × AV) := [(7, .ptr 3 0), (27, .slice 0 0 n 1 (.lo n)), (28, iv (o' n)), (29, iv (o' i))]
def aAp (n i m j : Nat) : List (Nat × AV) := aOr n i ++ [(40, sC 1051 m), (41, iv (o' m)), (42, iv (o' j))]
def oAp (b : Int) (m : KM) (c : Nat) (V : List Value) (l : List Chg) : LH := (0, rwO V) :: (ctY b m c ++ [(1051, rC l)])
def ixAp : List Nat := [7, 27, 28, 29, 40, 41, 42]
def kAp2 : List Nat := [0, 1, 3, 1051, 1100, 1101, 1102]
theorem fC' (n i z j : Nat) (V : List Value) (l : List Chg) (k v : Δ) (d : Bool) (b b9 : Int) (m m9 : KM) (c c9 : Nat) (F : HP) : AW' [(fAy, cAy k v d b m c b9 m9 c9)] (A6' [ht' fCo 12 0, (fCo, 13, 1, hv (.agg [sv k, sv v, bv d])), (fCo, 15, 0, hv (iv (o' (j + 1))))]) [] default fCo (A3' fCo 12) (tms 0 52 (aAp n i z j)) (oAp b m c V l) kAp2 ixAp F = VT.leaf (AX.normal,[pt' 3 0,AV.slice 0 0 n 1 (Cp.lo n),i' n,i' i,AV.slice 1051 0 z 3 (Cp.lo z),i' z,i' (j + 1)],52) [some (ce' (vmap V) 148),some (AO.map (renE (sgN (nmAy (3,1)) [] 0) (kM m9)) c9),some (ce' [a',AV.map 1,z' b9] 142),some (ce' (rowV chV l) 58),some (ce' [s' k,s' v,b' d] 58),none,none] 1101 (h33' j z l k v d ((k32' k v d).a (((Cnd.p True).a ((vw' [pt' 3 0,AV.agg [s' k,s' v,b' d]]).a ((ow' (ce' [a',AV.map 1,z' b] 142)).a (f' (OW (AO.map (kM m) c) (AO.map (renE (nmAy (3,1)) (kM m)) c)))))).a ((k2' j).a k1')))) := χ
theorem fD' (n i z j : Nat) (V : List Value) (l : List Chg) (b : Int) (m : KM) (c : Nat) (F : HP) : AW' [] (A6' [hf' fCo 12 0]) [] default fCo (A3' fCo 12) (tms 0 52 (aAp n i z j)) (oAp b m c V l) kAp2 ixAp F = VT.leaf (AX.exit 2,[pt' 3 0,AV.slice 0 0 n 1 (Cp.lo n),i' n,i' i,AV.slice 1051 0 z 3 (Cp.lo z),i' z,i' j],52) [some (ce' (vmap V) 148),some (AO.map (kM m) c),some (ce' [a',AV.map 1,z' b] 142),some (ce' (rowV chV l) 58),none,none,none] 1100 ((k31' j z).a k1') := χ
def gApL : List AV -> AP (Nat × Nat × Nat × Nat) := fun tms => match tms.getD 7 AV.undef, tms.getD 27 AV.undef, tms.getD 40 AV.undef with
 | .ptr r 0, .slice i _ _ _ _, .slice j _ _ _ _ => .read r fun x => match x with
  | .cells (_ :: .map k :: _) _ => .ret (r, k, i, j)
  | _ => .fail "catalog"
 | _, _, _ => .fail "records"
def SL' (p : Nat × Nat × Nat × Nat) (k : Nat) : Nat := match Nat.beq k 1051 with
 | true => p.2.2.2
 | false => match k with
  | 0 => p.2.2.1
  | 1 => p.2.1
  | 3 => p.1
  | k => k
def lAp (n i z : Nat) (V : List Value) (l : List Chg) (b b9 : Int) (m m9 : KM) (c c9 : Nat) : List AV -> AP (AX × List AV) := mkL gApL (fun _ => True) SL' (fun _ => tms 0 52 (aAp n i z 0)) (fun _ => oAp b m c V l) (fun _ => .leaf (.exit 2) (tms 0 52 (aOr n i)) ((0, rwO V) :: ctY b9 m9 c9))
def oOr (b : Int) (m : KM) (c : Nat) (V : List Value) (P : Mem -> Prop) : LH := [(0, rwO V), (1009, .any (frz P))] ++ ctY b m c
def ixOr : List Nat := [7, 27, 28, 29]
def kOr : List Nat := [0, 1, 3, 1009, 1100, 1101, 1102, 1103]
def hOr (oa : Option Addr) (k c i : Nat) : List (FuncId × Nat × Nat × Hint) := [ht' fCo 6 0, (fCo, 7, 1, hv (slV oa k c)), hf' fCo 9 1, (fCo, 16, 0, hv (iv (o' (i + 1))))]
def cDcR (oa : Option Addr) (k c z : Nat) (l : List Chg) (P : Mem -> Prop) : List AV -> Option (AP AV) := mkC (fun _ => .ret ()) (fun _ => True) (fun _ i => i) (fun _ => [slV oa k c]) (fun _ => [(1009, .any (frz P))]) (fun _ => .leaf .ret [.tuple [sC 1000 z, bv true]] [(1000, rC l), (1009, .any (frz P))])
def cDcZ (oa : Option Addr) (k c : Nat) : List AV -> Option (AP AV) := mkC (fun _ => .ret ()) (fun _ => True) (fun _ i => i) (fun _ => [slV oa k c]) (fun _ => []) (fun _ => .leaf .ret [.tuple [nilS, bv true]] [])
theorem dL' (oa : Option Addr) (k cp z n i : Nat) (V : List Value) (P : Mem -> Prop) (l : List Chg) (b b9 : Int) (m m9 : KM) (c c9 : Nat) (F : HP) : AW' [(fDc, cDcR oa k cp z l P)] (A6' (hOr oa k cp i)) [(fCo, 12, A3' fCo 12, lAp n i z V l b b9 m m9 c c9)] default fCo (A3' fCo 6) (tms 0 52 (aOr n i)) (oOr b m c V P) kOr ixOr F = VT.leaf (AX.normal,[pt' 3 0,AV.slice 0 0 n 1 (Cp.lo n),i' n,i' (i + 1)],52) [some (ce' (AV.rens (sgN (SL' (3,1,0,1100)) [] 0) (vmap V)) 148),some (AO.map (renE (sgN (SL' (3,1,0,1100)) [] 0) (kM m9)) c9),some (ce' [a',AV.map 1,z' b9] 142),none,none,some (AO.any (frz P)),none,none] 1102 (h3' i n (((p' ((0 + i * 1).blt (vmap V).length = true)).a (f' (Wk ((vmap V).getD (0 + i * 1) (u')) (v' (sl' oa k cp))))).a (((Cnd.p True).a ((vw' [v' (sl' oa k cp)]).a (f' (OW (AO.any (frz P)) (AO.any (frz P)))))).a (k5'.a ((p' ((fCo,12,A3' fCo 12,lAp n i z V l b b9 m m9 c c9).snd.snd.fst = (fCo,12,A3' fCo 12,lAp n i z V l b b9 m m9 c c9).snd.snd.fst)).a (k4'.a ((p' (VW (ra4 (a'::a'::a'::pt' 3 0::a'::v' (sl' oa k cp)::AV.slice 1100 0 z 3 (Cp.lo z)::b' true::ra8 (ra4 (a'::a'::a'::AV.slice 0 0 n 1 (Cp.lo n)::i' n::i' i::j'::pt' 0 (0 + i * 1)::v' (sl' oa k cp)::AV.tuple [AV.slice 1100 0 z 3 (Cp.lo z),b' true]::v' (sl' oa k cp)::AV.tuple [AV.slice 1100 0 z 3 (Cp.lo z),b' true]::AV.slice 1100 0 z 3 (Cp.lo z)::b' true::b' true::g'::AV.slice 1100 0 z 3 (Cp.lo z)::z' ↑z::i' 0::ra8 (a'::[]))))) (ra4 (a'::a'::a'::pt' 3 0::ra16 (a'::a'::a'::AV.slice 0 0 n 1 (Cp.lo n)::i' n::i' i::ra8 (a'::a'::AV.slice 1100 0 z 3 (Cp.lo z)::i' z::i' 0::ra8 (a'::[]))))))).a ((p' (OW (ce' (vmap V) 148) (ce' (AV.rens (SL' (3,1,0,1100)) (vmap V)) 148))).a ((k72' b).a ((p' (OW (AO.map (kM m) c) (AO.map (renE (SL' (3,1,0,1100)) (kM m)) c))).a ((p' (OW (ce' (AV.rens (sgN (fun i => i) [1000,1009] 1100) (rowV chV l)) 58) (ce' (AV.rens (SL' (3,1,0,1100)) (rowV chV l)) 58))).a ((k2' i).a k1')))))))))))) := χ
theorem dK' (oa : Option Addr) (k cp n i : Nat) (V : List Value) (P : Mem -> Prop) (b : Int) (m : KM) (c : Nat) (F : HP) : AW' [(fDc, cDcZ oa k cp)] (A6' (hOr oa k cp i ++ [hf' fCo 12 0])) [] default fCo (A3' fCo 6) (tms 0 52 (aOr n i)) (oOr b m c V P) kOr ixOr F = VT.leaf (AX.normal,[pt' 3 0,AV.slice 0 0 n 1 (Cp.lo n),i' n,i' (i + 1)],52) [some (ce' (vmap V) 148),some (AO.map (kM m) c),some (ce' [a',AV.map 1,z' b] 142),some (AO.any (frz P)),none,none,none,none] 1100 (h3' i n (((p' ((0 + i * 1).blt (vmap V).length = true)).a (f' (Wk ((vmap V).getD (0 + i * 1) (u')) (v' (sl' oa k cp))))).a (h26' oa k cp (k5'.a ((k2' i).a k1'))))) := χ
theorem dM' (n i : Nat) (V : List Value) (P : Mem -> Prop) (b : Int) (m : KM) (c : Nat) (F : HP) : AW' [] (A6' [hf' fCo 6 0]) [] default fCo (A3' fCo 6) (tms 0 52 (aOr n i)) (oOr b m c V P) kOr ixOr F = VT.leaf (AX.exit 0,[pt' 3 0,AV.slice 0 0 n 1 (Cp.lo n),i' n,i' i],52) [some (ce' (vmap V) 148),some (AO.map (kM m) c),some (ce' [a',AV.map 1,z' b] 142),some (AO.any (frz P)),none,none,none,none] 1100 ((k31' i n).a k1') := χ
def gOr : List AV -> AP (Nat × Nat × Nat) := fun tms => match tms.getD 7 AV.undef, tms.getD 27 AV.undef with
 | .ptr r 0, .slice i _ _ _ _ => .read r fun x => match x with
  | .cells (_ :: .map k :: _) _ => .ret (r, k, i)
  | _ => .fail "catalog"
 | _, _ => .fail "records"
def nmOr (p : Nat × Nat × Nat) (k : Nat) : Nat := match k with
 | 0 => p.2.2
 | 1 => p.2.1
 | 3 => p.1
 | k => k
def lOr (n : Nat) (O : AO) (b9 : Int) (m9 : KM) (c9 : Nat) : List AV -> AP (AX × List AV) := mkL gOr (fun _ => True) nmOr (fun _ => tms 0 52 (aOr n 0)) (fun _ => (0, O) :: ctY 0 [] 0) (fun _ => .leaf (.exit 0) (tms 0 52 [(7, .ptr 3 0)]) (ctY b9 m9 c9))
def cWoF (n : Nat) (D O L : AO) : List AV -> Option (AP AV) := mkC (fun args => match args with | .ptr i 0 :: _ => .ret i | _ => .fail "disk") (fun _ => True) nmE (fun _ => [.ptr 0 0, sv nmL]) (fun _ => [(0, D)]) (fun _ => .leaf .ret [.tuple [.ptr 1020 0, .slice 1016 0 n 1 (.lo n), iv 0]] [(1016, O), (1020, L)])
theorem oOk_eq (W : World) (n : Nat) (D O L : AO) (b9 : Int) (m9 : KM) (c9 : Nat) (F : HP) : wRun [(fWo, cWoF n D O L)] (A6' [hf' fCo 2 1]) [(fCo, 6, A3' fCo 6, lOr n O b9 m9 c9)] W fCo [.ptr 0 0] [(0, D)] [1100, 1101, 1102, 1103, 1104] F = VT.leaf (AV.tuple [pt' 1103 0,i' 0]) [none,some (AO.ren (sgN (nmE 0) [1016,1020] 1100) L),some (AO.map (renE (sgN (nmOr (1103,1102,1100)) [] 0) (kM m9)) c9),some (ce' [a',AV.map 1102,z' b9] 142),none] 1104 (((Cnd.p True).a ((p' (VW [pt' 0 0,s' (ByteArray.mk (Array.mk [99,97,116,97,108,111,103]))] [pt' 0 0,s' nmL])).a (f' (OW D (AO.ren (nmE 0) D))))).a (k5'.a ((p' ((fCo,6,A3' fCo 6,lOr n O b9 m9 c9).snd.snd.fst = (fCo,6,A3' fCo 6,lOr n O b9 m9 c9).snd.snd.fst)).a (k4'.a ((p' (VW (pt' 0 0::u'::v' (Value.pointer none)::i' 0::pt' 1101 0::AV.slice 1100 0 n 1 (Cp.lo n)::i' 0::pt' 1103 0::ru4 (u'::u'::AV.tuple [pt' 1101 0,AV.slice 1100 0 n 1 (Cp.lo n),i' 0]::pt' 0 0::AV.tuple [pt' 1101 0,AV.slice 1100 0 n 1 (Cp.lo n),i' 0]::pt' 1101 0::AV.slice 1100 0 n 1 (Cp.lo n)::i' 0::i' 0::g'::u'::pt' 1101 0::AV.map 1102::AV.agg [pt' 1101 0,AV.map 1102,i' 0]::pt' 1103 0::AV.slice 1100 0 n 1 (Cp.lo n)::z' ↑n::i' 0::ru16 (ru4 (u'::u'::[])))) (ra4 (a'::a'::a'::pt' 1103 0::ra16 (a'::a'::a'::AV.slice 1100 0 n 1 (Cp.lo n)::i' n::i' 0::ra16 (ra4 (a'::a'::[]))))))).a ((p' (OW (AO.ren (sgN (nmE 0) [1016,1020] 1100) O) (AO.ren (nmOr (1103,1102,1100)) O))).a ((p' (OW (ce' [pt' 1101 0,AV.map 1102,i' 0] 142) (ce' [a',AV.map 1102,i' 0] 142))).a (k88'.a k1')))))))) := χ
noncomputable section
def aSm (n i : Nat) : List (Nat × AV) := [(0, sP 0 n), (1, sP 1 n), (5, iv (o' i))]
def ixSm : List Nat := [0, 1, 4, 5]
def hSm (p : Δ × Δ) (i : Nat) : BI' := A6' [ht' fSm 4 3, (fSm, 6, 3, hv (.agg [sv p.1, sv p.2])), (fSm, 6, 7, hv (.agg [sv p.1, sv p.2])), hf' fSm 6 8, (fSm, 5, 1, hv (iv (o' (i + 1))))]
abbrev k109' (q0 : Nat) (q1 : List (Δ × Δ)) (q2 : Δ × Δ) : Cnd := ((p' ((List.take 2 (List.drop (0 + q0 * 2) (rowV prV q1))).length.beq 2 = true)).a ((p' (List.take 2 (List.drop (0 + q0 * 2) (rowV prV q1)) = [v' (vs' ((List.take 2 (List.drop (0 + q0 * 2) (rowV prV q1))).getD 0 (u')).strOf),v' (vs' ((List.take 2 (List.drop (0 + q0 * 2) (rowV prV q1))).getD 1 (u')).strOf)])).a (f' (Wk (AV.agg [v' (vs' ((List.take 2 (List.drop (0 + q0 * 2) (rowV prV q1))).getD 0 (u')).strOf),v' (vs' ((List.take 2 (List.drop (0 + q0 * 2) (rowV prV q1))).getD 1 (u')).strOf)]) (AV.agg [s' q2.fst,s' q2.snd])))))
theorem bR' (n i : Nat) (ps : List (Δ × Δ)) (p : Δ × Δ) (F : HP) : AW' [] (hSm p i) [] default fSm (A3' fSm 4) (tms 0 26 (aSm n i)) [(0, rP ps), (1, rP ps)] [0, 1] ixSm F = VT.leaf (AX.normal,[AV.slice 0 0 n 2 (Cp.lo n),AV.slice 1 0 n 2 (Cp.lo n),a',i' (i + 1)],26) [some (ce' (rowV prV ps) 124),some (ce' (rowV prV ps) 124)] 1100 ((wb' (decide (o' i < ↑n)) j').a ((f' (i.blt n = true)).a ((k109' i ps p).a ((f' (i.blt n = true)).a ((k109' i ps p).a (((p' (YE' Tryz.prog 62 (Array.mk [vs' p.fst,vs' p.snd]) (Array.mk [vs' p.fst,vs' p.snd]) (HK' [vs' p.fst,vs' p.snd] [vs' p.fst,vs' p.snd]))).a (f' (Wk (v' (vb' !HK' [vs' p.fst,vs' p.snd] [vs' p.fst,vs' p.snd])) g'))).a ((k2' i).a k1'))))))) := χ
theorem bT' (n i : Nat) (ps : List (Δ × Δ)) (F : HP) : AW' [] (A6' [hf' fSm 4 3]) [] default fSm (A3' fSm 4) (tms 0 26 (aSm n i)) [(0, rP ps), (1, rP ps)] [0, 1] ixSm F = VT.leaf (AX.exit 0,[AV.slice 0 0 n 2 (Cp.lo n),AV.slice 1 0 n 2 (Cp.lo n),a',i' i],26) [some (ce' (rowV prV ps) 124),some (ce' (rowV prV ps) 124)] 1100 ((wb' (decide (o' i < ↑n)) g').a k1') := χ
def gSm : List AV -> AP (Nat × Nat) := fun tms => match tms.getD 0 AV.undef, tms.getD 1 AV.undef with
 | .slice i _ _ _ _, .slice j _ _ _ _ => .ret (i, j)
 | _, _ => .fail "rows"
def nmSm (p : Nat × Nat) (k : Nat) : Nat := match Nat.beq k 0 with
 | true => p.1
 | false => match Nat.beq k 1 with
  | true => p.2
  | false => k
def lSm (n : Nat) (ps : List (Δ × Δ)) : List AV -> AP (AX × List AV) := mkL gSm (fun _ => True) nmSm (fun _ => tms 0 26 (aSm n 0)) (fun _ => [(0, rP ps), (1, rP ps)]) (fun _ => .leaf (.exit 0) (tms 0 26 []) [(0, rP ps), (1, rP ps)])
theorem bS' (n : Nat) (ps : List (Δ × Δ)) (F : HP) : wRun [] (A6' [hf' fSm 1 4]) [(fSm, 4, A3' fSm 4, lSm n ps)] default fSm [sP 2 n, sP 3 n] [(2, rP ps), (3, rP ps)] [2, 3] F = VT.leaf (b' true) [some (ce' (AV.rens (sgN (nmSm (2,3)) [] 0) (rowV prV ps)) 124),some (ce' (AV.rens (sgN (nmSm (2,3)) [] 0) (rowV prV ps)) 124)] 1100 ((wb' ((↑n : Int) != ↑n) g').a ((p' ((fSm,4,A3' fSm 4,lSm n ps).snd.snd.fst = (fSm,4,A3' fSm 4,lSm n ps).snd.snd.fst)).a (k4'.a ((p' (VW (AV.slice 2 0 n 2 (Cp.lo n)::AV.slice 3 0 n 2 (Cp.lo n)::u'::u'::b' false::i' 0::AV.slice 2 0 n 2 (Cp.lo n)::z' ↑n::AV.slice 3 0 n 2 (Cp.lo n)::z' ↑n::g'::ru8 (ru4 (u'::u'::u'::[]))) (AV.slice 2 0 n 2 (Cp.lo n)::AV.slice 3 0 n 2 (Cp.lo n)::a'::a'::a'::i' 0::ra16 (ra4 ([]))))).a ((p' (OW (ce' (rowV prV ps) 124) (ce' (AV.rens (nmSm (2,3)) (rowV prV ps)) 124))).a ((p' (OW (ce' (rowV prV ps) 124) (ce' (AV.rens (nmSm (2,3)) (rowV prV ps)) 124))).a k1')))))) := χ
theorem bQ' (F : HP) : wRun [] (A6' [hf' fSm 1 4, hf' fSm 4 3]) [] default fSm [nilS, nilS] [] [] F = VT.leaf (b' true) [] 1100 (k5'.a (k5'.a k1')) := χ
end
noncomputable section
inductive Thr where
 | a0
 | a1
 | a2
 | k
def mkT : Thr -> List Int
 | .a0 => []
 | .a1 => [0]
 | .a2 => [0, 0]
 | .k => [0, 0, 0]
def nxT : Thr -> Thr
 | .a0 => .a1
 | .a1 => .a2
 | p => p
structure Ct where
 h : Nat -> Nat -> HP
 sz : Int
 b : Int
 m : KM
 c : Nat
structure C3 where
 a0 : Ct
 a1 : Ct
 a2 : Ct
def ctS (f : C3) : Thr -> Ct
 | .a0 => f.a0
 | .a1 => f.a1
 | _ => f.a2
def dT (f : C3) (p : Thr) : AO := .own (.turns (mkT p)) (ctS f p).h
def catT (f : C3) (p : Thr) : LH := catG (dT f p) (ctS f p).sz (ctS f p).b (ctS f p).m (ctS f p).c
structure P3 where
 i : Nat
 l : Nat
 d : Nat
 m : Nat
 p : Thr
def g3 : List AV -> AP P3 := fun args => match args with
 | .ptr i 0 :: _ => .read i fun o => match o with
  | .cells (.ptr l 0 :: .map m :: _) _ => .read l fun o2 => match o2 with
   | .cells (.ptr d 0 :: _) _ => .read d fun o3 => match o3 with
    | .own (.turns t) _ => match t with
     | [] => .ret ⟨i, l, d, m, .a0⟩
     | [_] => .ret ⟨i, l, d, m, .a1⟩
     | _ => .ret ⟨i, l, d, m, .a2⟩
    | _ => .fail "disk"
   | _ => .fail "log"
  | .cells (.any :: .map m :: _) _ => .ret ⟨i, m, 0, m, .k⟩
  | _ => .fail "catalog"
 | _ => .fail "catalog"
def nm3 (q : P3) (k : Nat) : Nat := match Nat.beq k 1003 with
 | true => q.m
 | false => match k with
  | 0 => q.i
  | 1 => q.l
  | 2 => q.d
  | k => k
def ar3 (o1 o2 : Option Addr) (n1 c1 n2 c2 : Nat) : Thr -> AV
 | .a0 => slV o1 n1 c1
 | _ => slV o2 n2 c2
def er3 (e1 e2 : Int) : Thr -> Int
 | .a0 => e1
 | _ => e2
def pre3 : Thr -> Prop
 | .a0 => True
 | .a1 => True
 | _ => False
def preq : Thr -> Prop
 | .a0 => False
 | _ => True
def cOdA (f : C3) : List AV -> Option (AP AV) := mkC (fun _ => .ret ()) (fun _ => True) (fun _ i => i) (fun _ => []) (fun _ => []) (fun _ => .leaf .ret [.tuple [.ptr 1002 0, .ptr 1000 0]] [(1000, ctO (.ptr 1001 0) 1003 (ctS f .a0).b), (1001, lgD 1002 (ctS f .a0).sz), (1002, dT f .a0), (1003, mO (ctS f .a0).m (ctS f .a0).c)])
def cCmA (o1 o2 : Option Addr) (n1 c1 n2 c2 : Nat) (e1 e2 : Int) (f : C3) : List AV -> Option (AP AV) := mkC g3 (fun q => pre3 q.p) nm3 (fun q => [.ptr 0 0, ar3 o1 o2 n1 c1 n2 c2 q.p]) (fun q => catT f q.p) (fun q => .leaf .ret [iv (er3 e1 e2 q.p)] (catT f (nxT q.p)))
def kC (f : C3) : LH := ctX f.a2.b f.a2.m f.a2.c
def hP3 (f : C3) : Thr -> LH
 | .k => kC f
 | p => catT f p
def rP3 (f : C3) (x1 x2 : AV) (R1 : LH) (po : AO) : Thr -> RT
 | .a1 => .leaf .ret [x1] (catT f .a1 ++ R1)
 | .k => .leaf .ret [x2] (kC f ++ [(1000, po)])
 | p => .leaf .ret [x2] (catT f p ++ [(1000, po)])
def cPsA (f : C3) (x1 x2 : AV) (R1 : LH) (po : AO) : List AV -> Option (AP AV) := mkC g3 (fun q => preq q.p) nm3 (fun q => [.ptr 0 0]) (fun q => hP3 f q.p) (fun q => rP3 f x1 x2 R1 po q.p)
def cCrA (ok : Option Addr) (nk ck n : Nat) (tr : Int) (D : AO) (R : Bs) : List AV -> Option (AP AV) := mkC (fun args => match args with | .ptr i 0 :: _ => .ret i | _ => .fail "crash") (fun _ => True) nmW (fun _ => [.ptr 0 0, EX' ok nk ck tr]) (fun _ => [(0, D)]) (fun _ => .leaf .ret [.slice 1030 0 1 2 (.lo 1)] (outH n R))
structure N2 where
 i : Nat
 j : Nat
def nmDo (p : N2) (k : Nat) : Nat := match Nat.beq k 1030 with
 | true => p.i
 | false => match Nat.beq k 1031 with
  | true => p.j
  | false => k
def nmSe (p : N2) (k : Nat) : Nat := match k with
 | 2 => p.i
 | 3 => p.j
 | k => k
def cDoF (n : Nat) (R : Bs) (G : AO) : List AV -> Option (AP AV) := mkC (fun args => match args with
 | [.slice i _ _ _ _, _] => .read i fun o => match o with
  | .cells [_, .slice j _ _ _ _] _ => .ret (N2.mk i j)
  | _ => .fail "files"
 | _ => .fail "files") (fun _ => True) nmDo (fun _ => [.slice 1030 0 1 2 (.lo 1), iv 1099511627776]) (fun _ => outH n R) (fun _ => .leaf .ret [.tuple [.ptr 1000 0, iv 0]] [(1000, G)])
def cOkA (f : C3) (G : AO) : List AV -> Option (AP AV) := mkC (fun args => match args with | [.ptr i 0] => .ret i | _ => .fail "disk") (fun _ => True) nmW (fun _ => [.ptr 0 0]) (fun _ => [(0, G)]) (fun _ => .leaf .ret [.tuple [.ptr 1000 0, iv 0]] [(1000, ctO .any 1001 f.a2.b), (1001, mO f.a2.m f.a2.c)])
def cSmS (n : Nat) (po : AO) : List AV -> Option (AP AV) := mkC (fun args => match args with | [.slice i _ _ _ _, .slice j _ _ _ _] => .ret (N2.mk i j) | _ => .fail "rows") (fun _ => True) nmSe (fun _ => [sP 2 n, sP 3 n]) (fun _ => [(2, po), (3, po)]) (fun _ => .leaf .ret [bv true] [(2, po), (3, po)])
def cSmN : List AV -> Option (AP AV) := mkC (fun _ => .ret ()) (fun _ => True) (fun _ k => k) (fun _ => [nilS, nilS]) (fun _ => []) (fun _ => .leaf .ret [bv true] [])
abbrev k110' : Cnd := ((p' True).a ((vw' [e',e']).a (f' (Wk (b' true) j'))))
abbrev XR' (q0 : Option Addr) (q1 q2 : Nat) (q3 : Int) (q4 : Nat) (q5 : C3) (q6 q7 q8 q9 q10 : Nat) (q11 : Bs) (q12 q13 : Nat) (q14 : AO) (q15 q16 q17 : Nat) (z : Cnd) : Cnd := ((ee' [v' (sl' q0 q1 q2),z' q3]).a (((p' True).a ((vw' [pt' q4 0,AV.agg [v' (sl' q0 q1 q2),z' q3]]).a (f' (OW (AO.own (Md.turns [o' 0,o' 0]) (ctS q5 Thr.a2).h) (AO.own (Md.turns [o' 0,o' 0]) (ctS q5 Thr.a2).h))))).a (((p' True).a ((vw' [AV.slice q6 0 1 2 (Cp.lo 1),i' 1099511627776]).a ((ow' (ce' [s' nm1,AV.slice q7 0 q8 1 (Cp.lo q8)] 164)).a (f' (OW (ce' (AV.rens (sgN (nmW q4) [q9,q10] q6) (rowV encB q11)) 10) (ce' (AV.rens (nmDo (N2.mk q6 q7)) (rowV encB q11)) 10)))))).a ((f' (Wk (b' false) g')).a (((p' True).a ((vw' [pt' q12 0]).a (f' (OW (AO.ren (sgN (nmDo (N2.mk q6 q7)) [q13] q12) q14) (AO.ren (nmW q12) q14))))).a ((f' (Wk (b' true) j')).a ((f' (Wk (b' true) j')).a ((f' (Wk j' j')).a (((p' (preq Thr.k)).a ((vw' [pt' q15 0]).a ((ow' (ce' [a',AV.map q16,z' q5.a2.b] 142)).a (f' (OW (AO.map (renE (sgN (nmW q12) [q13,q17] q15) (kM q5.a2.m)) q5.a2.c) (AO.map (renE (nm3 (P3.mk q15 q16 0 q16 Thr.k)) (kM q5.a2.m)) q5.a2.c)))))).a z)))))))))
abbrev k112' : Cnd := (ow' (AO.any (frz fun x => True)))
abbrev XQ' (q0 q1 : Nat) (q2 : C3) (q3 q4 q5 q6 q7 q8 q9 : Nat) (q10 : Option Addr) (q11 q12 : Nat) (q13 : Int) (z : Cnd) : Cnd := ((p' (OW (ce' [pt' q0 0,AV.map q1,v' (vi' I' (ctS q2 Thr.a2).b)] 142) (ce' [pt' q0 0,AV.map q1,z' q2.a2.b] 142))).a ((p' (OW (ce' [pt' q3 0,s' nmL,i' 1,v' (vi' I' (ctS q2 Thr.a2).sz)] 216) (ce' [pt' q3 0,s' nmL,i' 1,z' q2.a2.sz] 216))).a ((ow' (AO.own (Md.turns [o' 0,o' 0]) (ctS q2 Thr.a2).h)).a ((p' (OW (AO.map (renE (sgN (nm3 (P3.mk q4 q0 q3 q5 Thr.a2)) [q6,q7] q1) (kM (ctS q2 Thr.a2).m)) (ctS q2 Thr.a2).c) (AO.map (renE (nmAt q8 (Pa.mk q4 q0 q3 q1 q9 0)) (kM q2.a2.m)) q2.a2.c))).a ((ow' (ce' [v' (sl' q10 q11 q12),z' q13] 76)).a z)))))
abbrev fX' (q0 : Nat) (q1 : Option Addr) (q2 q3 q4 q5 : Nat) (q6 : C3) (q7 q8 q9 q10 q11 q12 : Nat) (q13 : Option Addr) (q14 q15 q16 q17 : Nat) (z : Cnd) : Cnd := (((p' True).a (f' (VW [] []))).a ((f' (Wk (b' false) g')).a (((p' True).a (f' (VW [] []))).a ((f' (Wk (b' false) g')).a (((p' (pre3 Thr.a0)).a ((vw' [pt' q0 0,v' (sl' q1 q2 q3)]).a ((ow' (ce' [pt' q4 0,AV.map q5,v' (vi' I' (ctS q6 Thr.a0).b)] 142)).a ((ow' (ce' [pt' q7 0,s' nmL,i' 1,v' (vi' I' (ctS q6 Thr.a0).sz)] 216)).a ((ow' (AO.own (Md.turns []) (ctS q6 Thr.a0).h)).a (f' (OW (AO.map (renE (sgN (fun i => i) [q8,q9,q10,q11] q0) (kM (ctS q6 Thr.a0).m)) (ctS q6 Thr.a0).c) (AO.map (renE (nm3 (P3.mk q0 q4 q7 q5 Thr.a0)) (kM (ctS q6 Thr.a0).m)) (ctS q6 Thr.a0).c)))))))).a (((p' (preq Thr.a1)).a ((vw' [pt' q0 0]).a ((p' (OW (ce' [pt' q4 0,AV.map q12,v' (vi' I' (ctS q6 (nxT Thr.a0)).b)] 142) (ce' [pt' q4 0,AV.map q12,v' (vi' I' (ctS q6 Thr.a1).b)] 142))).a ((p' (OW (ce' [pt' q7 0,s' nmL,i' 1,v' (vi' I' (ctS q6 (nxT Thr.a0)).sz)] 216) (ce' [pt' q7 0,s' nmL,i' 1,v' (vi' I' (ctS q6 Thr.a1).sz)] 216))).a ((p' (OW (AO.own (Md.turns [o' 0]) (ctS q6 (nxT Thr.a0)).h) (AO.own (Md.turns [o' 0]) (ctS q6 Thr.a1).h))).a (f' (OW (AO.map (renE (sgN (nm3 (P3.mk q0 q4 q7 q5 Thr.a0)) [q11] q12) (kM (ctS q6 (nxT Thr.a0)).m)) (ctS q6 (nxT Thr.a0)).c) (AO.map (renE (nm3 (P3.mk q0 q4 q7 q12 Thr.a1)) (kM (ctS q6 Thr.a1).m)) (ctS q6 Thr.a1).c)))))))).a (((p' (pre3 Thr.a1)).a ((vw' [pt' q0 0,v' (sl' q13 q14 q15)]).a ((ow' (ce' [pt' q4 0,AV.map q16,v' (vi' I' (ctS q6 Thr.a1).b)] 142)).a ((ow' (ce' [pt' q7 0,s' nmL,i' 1,v' (vi' I' (ctS q6 Thr.a1).sz)] 216)).a ((ow' (AO.own (Md.turns [o' 0]) (ctS q6 Thr.a1).h)).a (f' (OW (AO.map (renE (sgN (nm3 (P3.mk q0 q4 q7 q12 Thr.a1)) [q11] q16) (kM (ctS q6 Thr.a1).m)) (ctS q6 Thr.a1).c) (AO.map (renE (nm3 (P3.mk q0 q4 q7 q16 Thr.a1)) (kM (ctS q6 Thr.a1).m)) (ctS q6 Thr.a1).c)))))))).a (((p' (preq Thr.a2)).a ((vw' [pt' q0 0]).a ((p' (OW (ce' [pt' q4 0,AV.map q17,v' (vi' I' (ctS q6 (nxT Thr.a1)).b)] 142) (ce' [pt' q4 0,AV.map q17,v' (vi' I' (ctS q6 Thr.a2).b)] 142))).a ((p' (OW (ce' [pt' q7 0,s' nmL,i' 1,v' (vi' I' (ctS q6 (nxT Thr.a1)).sz)] 216) (ce' [pt' q7 0,s' nmL,i' 1,v' (vi' I' (ctS q6 Thr.a2).sz)] 216))).a ((p' (OW (AO.own (Md.turns [o' 0,o' 0]) (ctS q6 (nxT Thr.a1)).h) (AO.own (Md.turns [o' 0,o' 0]) (ctS q6 Thr.a2).h))).a (f' (OW (AO.map (renE (sgN (nm3 (P3.mk q0 q4 q7 q16 Thr.a1)) [q11] q17) (kM (ctS q6 (nxT Thr.a1)).m)) (ctS q6 (nxT Thr.a1)).c) (AO.map (renE (nm3 (P3.mk q0 q4 q7 q17 Thr.a2)) (kM (ctS q6 Thr.a2).m)) (ctS q6 Thr.a2).c)))))))).a z))))))))
theorem XA' (W : World) (o1 o2 ok : Option Addr) (n1 c1 n2 c2 nk ck nR : Nat) (tr e1 : Int) (e2 : Int) (f : C3) (R : Bs) (G : AO) (F : HP) : wRun [(CK', CV'), (fOd, cOdA f), (fCm, cCmA o1 o2 n1 c1 n2 c2 e1 e2 f), (fPs, cPsA f nilS nilS [] dumZ), (fSm, cSmN), (fCr, cCrA ok nk ck nR tr (dT f .a2) R), (fDo, cDoF nR R G), (fCo, cOkA f G)] (A6' [hf' fAm 1 1, hf' fAm 4 1, ht' fAm 10 1, hf' fAm 10 7, hf' fAm 26 1, ht' fAm 29 1, ht' fAm 29 4, ht' fAm 29 5, ht' fAm 29 10, ht' fAm 29 11]) [(fAm, 13, A3' fAm 13, lRd 1109 o2 n2 c2 e2 nilS (dT f .a2) (ftO ok nk ck tr) dumZ f.a2.sz f.a2.b f.a2.m f.a2.c)] W fAm [slV o1 n1 c1, slV o2 n2 c2, EX' ok nk ck tr] [] [] F = VT.leaf (b' true) [] 1116 (fX' 1101 o1 n1 c1 1102 1104 f 1103 1000 1001 1002 1003 1105 o2 n2 c2 1106 1107 ((k59' e2).a (((Cnd.p True).a (f' (VW [e',e'] [e',e']))).a (k5'.a ((p' ((fAm,13,A3' fAm 13,lRd 1109 o2 n2 c2 e2 nilS (dT f Thr.a2) (ftO ok nk ck tr) dumZ f.a2.sz f.a2.b f.a2.m f.a2.c).snd.snd.fst = (fAm,13,A3' fAm 13,lRd 1109 o2 n2 c2 e2 nilS (dT f Thr.a2) (ftO ok nk ck tr) dumZ f.a2.sz f.a2.b f.a2.m f.a2.c).snd.snd.fst)).a (k4'.a ((p' (VW (v' (sl' o1 n1 c1)::v' (sl' o2 n2 c2)::AV.agg [v' (sl' ok nk ck),z' tr]::u'::u'::pt' 1100 0::b' false::pt' 1103 0::pt' 1101 0::e'::z' e2::e'::ru8 (u'::u'::b' true::g'::AV.tuple [pt' 1103 0,pt' 1101 0]::AV.tuple [pt' 1103 0,pt' 1101 0]::pt' 1103 0::pt' 1101 0::pt' 1101 0::g'::pt' 1101 0::v' (sl' o1 n1 c1)::z' e1::pt' 1101 0::e'::pt' 1101 0::v' (sl' o2 n2 c2)::z' e2::pt' 1101 0::e'::z' e2::j'::j'::e'::e'::b' true::b' false::g'::v' (sl' o2 n2 c2)::z' ↑n2::i' 0::ru16 (ru16 (ru16 (ru16 (ru8 (ru4 ([])))))))) (a'::v' (sl' o2 n2 c2)::a'::a'::a'::pt' 1100 0::a'::pt' 1103 0::pt' 1101 0::a'::z' e2::e'::ra16 (ra16 (ra4 (v' (sl' o2 n2 c2)::i' n2::i' 0::ra16 (ra16 (ra16 (ra16 (ra8 (ra4 ([])))))))))))).a (XQ' 1102 1108 f 1103 1101 1107 1003 1000 1109 1100 ok nk ck tr (k112'.a (XR' ok nk ck tr 1103 f 1110 1111 nR 1030 1031 R 1112 1000 G 1113 1114 1001 (k110'.a (k62'.a k1')))))))))))) := χ
abbrev k115' (q0 q1 q2 q3 q4 q5 : Nat) (q6 : List (Δ × Δ)) (q7 q8 q9 q10 q11 : Nat) : Cnd := ((p' True).a ((vw' [AV.slice q0 0 q1 2 (Cp.lo q1),AV.slice q2 0 q1 2 (Cp.lo q1)]).a ((p' (OW (ce' (AV.rens (sgN (nm3 (P3.mk q3 q4 0 q4 Thr.k)) [q5] q0) (rowV prV q6)) 124) (ce' (AV.rens (nmSe (N2.mk q0 q2)) (rowV prV q6)) 124))).a ((p' (OW (ce' (AV.rens (sgN (nmAt q2 (Pa.mk q7 q8 q9 q10 q11 0)) [] 0) (rowV prV q6)) 124) (ce' (AV.rens (nmSe (N2.mk q0 q2)) (rowV prV q6)) 124))).a (f' (Wk (b' true) j'))))))
theorem X9' (W : World) (o1 o2 ok : Option Addr) (n1 c1 n2 c2 nk ck nR : Nat) (tr e1 : Int) (e2 : Int) (f : C3) (R : Bs) (G : AO) (n : Nat) (ps : List (Δ × Δ)) (F : HP) : wRun [(CK', CV'), (fOd, cOdA f), (fCm, cCmA o1 o2 n1 c1 n2 c2 e1 e2 f), (fPs, cPsA f (sP 1000 n) (sP 1000 n) [(1000, rP ps)] (rP ps)), (fSm, cSmS n (rP ps)), (fCr, cCrA ok nk ck nR tr (dT f .a2) R), (fDo, cDoF nR R G), (fCo, cOkA f G)] (A6' [hf' fAm 1 1, hf' fAm 4 1, ht' fAm 10 1, hf' fAm 10 7, hf' fAm 26 1, ht' fAm 29 1, ht' fAm 29 4, ht' fAm 29 5, ht' fAm 29 10, ht' fAm 29 11]) [(fAm, 13, A3' fAm 13, lRd 1110 o2 n2 c2 e2 (sP 5 n) (dT f .a2) (ftO ok nk ck tr) (rP ps) f.a2.sz f.a2.b f.a2.m f.a2.c)] W fAm [slV o1 n1 c1, slV o2 n2 c2, EX' ok nk ck tr] [] [] F = VT.leaf (b' true) [] 1117 (((Cnd.p True).a (f' (VW [] []))).a (k5'.a (((Cnd.p True).a (f' (VW [] []))).a (k5'.a (((p' (pre3 Thr.a0)).a ((vw' [pt' 1101 0,v' (sl' o1 n1 c1)]).a ((ow' (ce' [pt' 1102 0,AV.map 1104,v' (vi' I' (ctS f Thr.a0).b)] 142)).a ((ow' (ce' [pt' 1103 0,s' nmL,i' 1,v' (vi' I' (ctS f Thr.a0).sz)] 216)).a ((ow' (AO.own (Md.turns []) (ctS f Thr.a0).h)).a (f' (OW (AO.map (renE (sgN (fun i => i) [1000,1001,1002,1003] 1101) (kM (ctS f Thr.a0).m)) (ctS f Thr.a0).c) (AO.map (renE (nm3 (P3.mk 1101 1102 1103 1104 Thr.a0)) (kM (ctS f Thr.a0).m)) (ctS f Thr.a0).c)))))))).a (((p' (preq Thr.a1)).a ((vw' [pt' 1101 0]).a ((p' (OW (ce' [pt' 1102 0,AV.map 1105,v' (vi' I' (ctS f (nxT Thr.a0)).b)] 142) (ce' [pt' 1102 0,AV.map 1105,v' (vi' I' (ctS f Thr.a1).b)] 142))).a ((p' (OW (ce' [pt' 1103 0,s' nmL,i' 1,v' (vi' I' (ctS f (nxT Thr.a0)).sz)] 216) (ce' [pt' 1103 0,s' nmL,i' 1,v' (vi' I' (ctS f Thr.a1).sz)] 216))).a ((p' (OW (AO.own (Md.turns [o' 0]) (ctS f (nxT Thr.a0)).h) (AO.own (Md.turns [o' 0]) (ctS f Thr.a1).h))).a (f' (OW (AO.map (renE (sgN (nm3 (P3.mk 1101 1102 1103 1104 Thr.a0)) [1003] 1105) (kM (ctS f (nxT Thr.a0)).m)) (ctS f (nxT Thr.a0)).c) (AO.map (renE (nm3 (P3.mk 1101 1102 1103 1105 Thr.a1)) (kM (ctS f Thr.a1).m)) (ctS f Thr.a1).c)))))))).a (((p' (pre3 Thr.a1)).a ((vw' [pt' 1101 0,v' (sl' o2 n2 c2)]).a ((ow' (ce' [pt' 1102 0,AV.map 1106,v' (vi' I' (ctS f Thr.a1).b)] 142)).a ((ow' (ce' [pt' 1103 0,s' nmL,i' 1,v' (vi' I' (ctS f Thr.a1).sz)] 216)).a ((ow' (AO.own (Md.turns [o' 0]) (ctS f Thr.a1).h)).a (f' (OW (AO.map (renE (sgN (nm3 (P3.mk 1101 1102 1103 1105 Thr.a1)) [1003,1000] 1106) (kM (ctS f Thr.a1).m)) (ctS f Thr.a1).c) (AO.map (renE (nm3 (P3.mk 1101 1102 1103 1106 Thr.a1)) (kM (ctS f Thr.a1).m)) (ctS f Thr.a1).c)))))))).a (((p' (preq Thr.a2)).a ((vw' [pt' 1101 0]).a ((p' (OW (ce' [pt' 1102 0,AV.map 1108,v' (vi' I' (ctS f (nxT Thr.a1)).b)] 142) (ce' [pt' 1102 0,AV.map 1108,v' (vi' I' (ctS f Thr.a2).b)] 142))).a ((p' (OW (ce' [pt' 1103 0,s' nmL,i' 1,v' (vi' I' (ctS f (nxT Thr.a1)).sz)] 216) (ce' [pt' 1103 0,s' nmL,i' 1,v' (vi' I' (ctS f Thr.a2).sz)] 216))).a ((p' (OW (AO.own (Md.turns [o' 0,o' 0]) (ctS f (nxT Thr.a1)).h) (AO.own (Md.turns [o' 0,o' 0]) (ctS f Thr.a2).h))).a (f' (OW (AO.map (renE (sgN (nm3 (P3.mk 1101 1102 1103 1106 Thr.a1)) [1003] 1108) (kM (ctS f (nxT Thr.a1)).m)) (ctS f (nxT Thr.a1)).c) (AO.map (renE (nm3 (P3.mk 1101 1102 1103 1108 Thr.a2)) (kM (ctS f Thr.a2).m)) (ctS f Thr.a2).c)))))))).a ((k59' e2).a (((Cnd.p True).a ((vw' [AV.slice 1107 0 n 2 (Cp.lo n),AV.slice 1110 0 n 2 (Cp.lo n)]).a ((p' (OW (ce' (AV.rens (sgN (nm3 (P3.mk 1101 1102 1103 1105 Thr.a1)) [1003,1000] 1106) (rowV prV ps)) 124) (ce' (AV.rens (nmSe (N2.mk 1107 1110)) (rowV prV ps)) 124))).a (f' (OW (ce' (AV.rens (sgN (nm3 (P3.mk 1101 1102 1103 1108 Thr.a2)) [1003,1000] 1109) (rowV prV ps)) 124) (ce' (AV.rens (nmSe (N2.mk 1107 1110)) (rowV prV ps)) 124)))))).a (k5'.a ((p' ((fAm,13,A3' fAm 13,lRd 1110 o2 n2 c2 e2 (sP 5 n) (dT f Thr.a2) (ftO ok nk ck tr) (rP ps) f.a2.sz f.a2.b f.a2.m f.a2.c).snd.snd.fst = (fAm,13,A3' fAm 13,lRd 1110 o2 n2 c2 e2 (sP 5 n) (dT f Thr.a2) (ftO ok nk ck tr) (rP ps) f.a2.sz f.a2.b f.a2.m f.a2.c).snd.snd.fst)).a (k4'.a ((p' (VW (v' (sl' o1 n1 c1)::v' (sl' o2 n2 c2)::AV.agg [v' (sl' ok nk ck),z' tr]::u'::u'::pt' 1100 0::b' false::pt' 1103 0::pt' 1101 0::AV.slice 1107 0 n 2 (Cp.lo n)::z' e2::AV.slice 1110 0 n 2 (Cp.lo n)::ru8 (u'::u'::b' true::g'::AV.tuple [pt' 1103 0,pt' 1101 0]::AV.tuple [pt' 1103 0,pt' 1101 0]::pt' 1103 0::pt' 1101 0::pt' 1101 0::g'::pt' 1101 0::v' (sl' o1 n1 c1)::z' e1::pt' 1101 0::AV.slice 1107 0 n 2 (Cp.lo n)::pt' 1101 0::v' (sl' o2 n2 c2)::z' e2::pt' 1101 0::AV.slice 1110 0 n 2 (Cp.lo n)::z' e2::j'::j'::AV.slice 1107 0 n 2 (Cp.lo n)::AV.slice 1110 0 n 2 (Cp.lo n)::b' true::b' false::g'::v' (sl' o2 n2 c2)::z' ↑n2::i' 0::ru16 (ru16 (ru16 (ru16 (ru8 (ru4 ([])))))))) (a'::v' (sl' o2 n2 c2)::a'::a'::a'::pt' 1100 0::a'::pt' 1103 0::pt' 1101 0::a'::z' e2::AV.slice 1110 0 n 2 (Cp.lo n)::ra16 (ra16 (ra4 (v' (sl' o2 n2 c2)::i' n2::i' 0::ra16 (ra16 (ra16 (ra16 (ra8 (ra4 ([])))))))))))).a (XQ' 1102 1109 f 1103 1101 1108 1003 1000 1110 1100 ok nk ck tr ((p' (OW (ce' (AV.rens (sgN (nmSe (N2.mk 1107 1110)) [] 0) (rowV prV ps)) 124) (ce' (AV.rens (nmAt 1110 (Pa.mk 1101 1102 1103 1109 1100 0)) (rowV prV ps)) 124))).a (XR' ok nk ck tr 1103 f 1111 1112 nR 1030 1031 R 1113 1000 G 1114 1115 1001 ((k115' 1116 n 1110 1114 1115 1000 ps 1101 1102 1103 1109 1100).a (k62'.a k1'))))))))))))))))))) := χ
theorem X8' (W : World) (o1 o2 ok : Option Addr) (n1 c1 n2 c2 nk ck nR : Nat) (tr e1 : Int) (f : C3) (R : Bs) (G : AO) (F : HP) : wRun [(CK', CV'), (fOd, cOdA f), (fCm, cCmA o1 o2 n1 c1 n2 c2 e1 0 f), (fPs, cPsA f .any nilS [] dumZ), (fSm, cSmN), (fCr, cCrA ok nk ck nR tr (dT f .a2) R), (fDo, cDoF nR R G), (fCo, cOkA f G)] (A6' [hf' fAm 1 1, hf' fAm 4 1, hf' fAm 10 1, hf' fAm 10 7, hf' fAm 26 1, ht' fAm 29 1, ht' fAm 29 4, ht' fAm 29 5, ht' fAm 29 10, ht' fAm 29 11]) [(fAm, 13, A3' fAm 13, lRd 1109 o2 n2 c2 0 nilS (dT f .a2) (ftO ok nk ck tr) dumZ f.a2.sz f.a2.b f.a2.m f.a2.c)] W fAm [slV o1 n1 c1, slV o2 n2 c2, EX' ok nk ck tr] [] [] F = VT.leaf (b' true) [] 1116 (fX' 1101 o1 n1 c1 1102 1104 f 1103 1000 1001 1002 1003 1105 o2 n2 c2 1106 1107 (h97' ((p' ((fAm,13,A3' fAm 13,lRd 1109 o2 n2 c2 0 nilS (dT f Thr.a2) (ftO ok nk ck tr) dumZ f.a2.sz f.a2.b f.a2.m f.a2.c).snd.snd.fst = (fAm,13,A3' fAm 13,lRd 1109 o2 n2 c2 0 nilS (dT f Thr.a2) (ftO ok nk ck tr) dumZ f.a2.sz f.a2.b f.a2.m f.a2.c).snd.snd.fst)).a (k4'.a ((p' (VW (v' (sl' o1 n1 c1)::v' (sl' o2 n2 c2)::AV.agg [v' (sl' ok nk ck),z' tr]::u'::u'::pt' 1100 0::b' false::pt' 1103 0::pt' 1101 0::a'::i' 0::e'::ru8 (u'::u'::b' true::g'::AV.tuple [pt' 1103 0,pt' 1101 0]::AV.tuple [pt' 1103 0,pt' 1101 0]::pt' 1103 0::pt' 1101 0::pt' 1101 0::g'::pt' 1101 0::v' (sl' o1 n1 c1)::z' e1::pt' 1101 0::a'::pt' 1101 0::v' (sl' o2 n2 c2)::i' 0::pt' 1101 0::e'::i' 0::g'::g'::ru4 (g'::v' (sl' o2 n2 c2)::z' ↑n2::i' 0::ru16 (ru16 (ru16 (ru16 (ru8 (ru4 ([]))))))))) (a'::v' (sl' o2 n2 c2)::a'::a'::a'::pt' 1100 0::a'::pt' 1103 0::pt' 1101 0::a'::i' 0::e'::ra16 (ra16 (ra4 (v' (sl' o2 n2 c2)::i' n2::i' 0::ra16 (ra16 (ra16 (ra16 (ra8 (ra4 ([])))))))))))).a (XQ' 1102 1108 f 1103 1101 1107 1003 1000 1109 1100 ok nk ck tr (k112'.a (XR' ok nk ck tr 1103 f 1110 1111 nR 1030 1031 R 1112 1000 G 1113 1114 1001 (k110'.a (k62'.a k1')))))))))) := χ
theorem X7' (W : World) (o1 o2 ok : Option Addr) (n1 c1 n2 c2 nk ck nR : Nat) (tr e1 : Int) (f : C3) (R : Bs) (G : AO) (n : Nat) (ps : List (Δ × Δ)) (F : HP) : wRun [(CK', CV'), (fOd, cOdA f), (fCm, cCmA o1 o2 n1 c1 n2 c2 e1 0 f), (fPs, cPsA f .any (sP 1000 n) [] (rP ps)), (fSm, cSmS n (rP ps)), (fCr, cCrA ok nk ck nR tr (dT f .a2) R), (fDo, cDoF nR R G), (fCo, cOkA f G)] (A6' [hf' fAm 1 1, hf' fAm 4 1, hf' fAm 10 1, hf' fAm 10 7, hf' fAm 26 1, ht' fAm 29 1, ht' fAm 29 4, ht' fAm 29 5, ht' fAm 29 10, ht' fAm 29 11]) [(fAm, 13, A3' fAm 13, lRd 1109 o2 n2 c2 0 (sP 5 n) (dT f .a2) (ftO ok nk ck tr) (rP ps) f.a2.sz f.a2.b f.a2.m f.a2.c)] W fAm [slV o1 n1 c1, slV o2 n2 c2, EX' ok nk ck tr] [] [] F = VT.leaf (b' true) [] 1116 (fX' 1101 o1 n1 c1 1102 1104 f 1103 1000 1001 1002 1003 1105 o2 n2 c2 1106 1107 (h97' ((p' ((fAm,13,A3' fAm 13,lRd 1109 o2 n2 c2 0 (sP 5 n) (dT f Thr.a2) (ftO ok nk ck tr) (rP ps) f.a2.sz f.a2.b f.a2.m f.a2.c).snd.snd.fst = (fAm,13,A3' fAm 13,lRd 1109 o2 n2 c2 0 (sP 5 n) (dT f Thr.a2) (ftO ok nk ck tr) (rP ps) f.a2.sz f.a2.b f.a2.m f.a2.c).snd.snd.fst)).a (k4'.a ((p' (VW (v' (sl' o1 n1 c1)::v' (sl' o2 n2 c2)::AV.agg [v' (sl' ok nk ck),z' tr]::u'::u'::pt' 1100 0::b' false::pt' 1103 0::pt' 1101 0::a'::i' 0::AV.slice 1109 0 n 2 (Cp.lo n)::ru8 (u'::u'::b' true::g'::AV.tuple [pt' 1103 0,pt' 1101 0]::AV.tuple [pt' 1103 0,pt' 1101 0]::pt' 1103 0::pt' 1101 0::pt' 1101 0::g'::pt' 1101 0::v' (sl' o1 n1 c1)::z' e1::pt' 1101 0::a'::pt' 1101 0::v' (sl' o2 n2 c2)::i' 0::pt' 1101 0::AV.slice 1109 0 n 2 (Cp.lo n)::i' 0::g'::g'::ru4 (g'::v' (sl' o2 n2 c2)::z' ↑n2::i' 0::ru16 (ru16 (ru16 (ru16 (ru8 (ru4 ([]))))))))) (a'::v' (sl' o2 n2 c2)::a'::a'::a'::pt' 1100 0::a'::pt' 1103 0::pt' 1101 0::a'::i' 0::AV.slice 1109 0 n 2 (Cp.lo n)::ra16 (ra16 (ra4 (v' (sl' o2 n2 c2)::i' n2::i' 0::ra16 (ra16 (ra16 (ra16 (ra8 (ra4 ([])))))))))))).a (XQ' 1102 1108 f 1103 1101 1107 1003 1000 1109 1100 ok nk ck tr ((p' (OW (ce' (AV.rens (sgN (nm3 (P3.mk 1101 1102 1103 1107 Thr.a2)) [1003,1000] 1108) (rowV prV ps)) 124) (ce' (AV.rens (nmAt 1109 (Pa.mk 1101 1102 1103 1108 1100 0)) (rowV prV ps)) 124))).a (XR' ok nk ck tr 1103 f 1110 1111 nR 1030 1031 R 1112 1000 G 1113 1114 1001 ((k115' 1115 n 1109 1113 1114 1000 ps 1101 1102 1103 1108 1100).a (k62'.a k1')))))))))) := χ
end
end Go.Proofs.YtnnojnlejlokhaaGreatDoor.Wk
