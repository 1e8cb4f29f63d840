/- Parts of the proof, merged. -/
import Derived.Test.YtgahllbgipdchaaGreatDoorWrn3
import Derived.Test.YtgahllbgipdchaaGreatDoorWrn2
import Derived.ProofKit
import Derived.OpenShut
import Derived.Deep.Fields
import Derived.ChangeSame
noncomputable section
set_option linter.unusedVariables false
set_option linter.unusedSimpArgs false
set_option maxRecDepth 100000
set_option linter.unusedSectionVars false
namespace Go.Proofs.YtgahllbgipdchaaGreatDoor.Wk
open Go Go.RowKit Eng Kit Tree
noncomputable section
def uDO (PV : AV) (O : AO) (us : Int) (p q : Nat) (da sa : Bs) : LH := [(0, dkC PV us), (1001, mpO 0 1), (1002, fiC p q), (1003, rB da), (1004, rB sa), (1005, O)]
def EN' (ok : Option Addr) (nk ck : Nat) (tr : Int) : AV := .agg [slV ok nk ck, iv tr]
def JE' (ok : Option Addr) (nk ck : Nat) (tr : Int) : AO := .cells [slV ok nk ck, iv tr] tFt
def aRg : List (Nat × AV) := [(0, .ptr 0 0), (3, .ptr 1010 0), (4, nilS), (5, .map 1011), (19, .ptr 1014 0)]
def oRg0 (ok : Option Addr) (nk ck : Nat) (tr : Int) : LH := [(1010, JE' ok nk ck tr), (1011, .map [] 0), (1014, .miter (some 1001) 1 [] 1)]
def oRg1 (ok : Option Addr) (nk ck : Nat) (tr : Int) (q : Nat) (sa : Bs) : LH := [(1010, JE' ok nk ck tr), (1011, lfM (sB 1012 q)), (1012, rB sa), (1014, .miter (some 1001) 1 [0] 1)]
def kRg : List Nat := [0, 1001, 1002, 1003, 1004, 1005, 1010, 1011, 1012, 1014, 1100, 1101, 1102]
theorem YV' (us tr : Int) (pp qq nk ck : Nat) (ok : Option Addr) (da sa : Bs) (PV : AV) (O : AO) (F : HP) : AS' [(fCl, cClB qq sa)] (AC' [ht' fCr 3 1]) [] default fCr (A4' fCr 3) (tms 0 120 aRg) (uDO PV O us pp qq da sa ++ oRg0 ok nk ck tr) kRg [0, 3, 4, 5, 19] F = VT.leaf (AX.normal,[AV.ptr 0 0,AV.ptr 1010 0,e',AV.map 1011,AV.ptr 1014 0],120) [some (AO.cells [AV.map 1001,PV,i' 1099511627776,z' us] 142),some (AO.map [(s' nm1,AV.ptr 1002 0,0)] 1),some (AO.cells [AV.slice 1003 0 pp 1 (Cp.lo pp),AV.slice 1004 0 qq 1 (Cp.lo qq)] 148),some (AO.cells (rowV encB da) 10),some (AO.cells (AV.rens (sgN (fun k => match k with | 0 => 1004 | k => k) [1000] 1100) (rowV encB sa)) 10),some O,some (AO.cells [AV.v (Value.slice ok nk ck),z' tr] 94),some (AO.map [(s' nm1,AV.slice 1100 0 qq 1 (Cp.lo qq),0)] 1),none,some (AO.miter (some 1001) 1 [0] 1),some (AO.cells (AV.rens (sgN (fun k => match k with | 0 => 1004 | k => k) [1000] 1100) (rowV encB sa)) 10),none,none] 1101 (h13' ((k16' 1004 qq sa).a (((p' (findKey Tryz.prog (envW [(30,cClB qq sa)] (AC' [(19,3,1,hv j')]) [] default F) 9 (s' nm1) [] 0 = AP.ret none)).a (f' (CN' (s' nm1) []))).a k1'))) := χ
theorem YU' (us tr : Int) (pp qq nk ck : Nat) (ok : Option Addr) (da sa : Bs) (PV : AV) (O : AO) (F : HP) : AS' [] (AC' [hf' fCr 3 1]) [] default fCr (A4' fCr 3) (tms 0 120 aRg) (uDO PV O us pp qq da sa ++ oRg1 ok nk ck tr qq sa) kRg [0, 3, 4, 5, 19] F = VT.leaf (AX.exit 0,[AV.ptr 0 0,AV.ptr 1010 0,e',AV.map 1011,AV.ptr 1014 0],120) [some (AO.cells [AV.map 1001,PV,i' 1099511627776,z' us] 142),some (AO.map [(s' nm1,AV.ptr 1002 0,0)] 1),some (AO.cells [AV.slice 1003 0 pp 1 (Cp.lo pp),AV.slice 1004 0 qq 1 (Cp.lo qq)] 148),some (AO.cells (rowV encB da) 10),some (AO.cells (rowV encB sa) 10),some O,some (AO.cells [AV.v (Value.slice ok nk ck),z' tr] 94),some (AO.map [(s' nm1,AV.slice 1012 0 qq 1 (Cp.lo qq),0)] 1),some (AO.cells (rowV encB sa) 10),some (AO.miter (some 1001) 1 [0] 1),none,none,none] 1100 (k7'.a k1') := χ
def lRg (us tr : Int) (pp qq nk ck : Nat) (ok : Option Addr) (da sa : Bs) (PV : AV) (O : AO) : List AV -> AP (AX × List AV) := mkL (fun tmps => match tmps.getD 3 .any, tmps.getD 5 .any, tmps.getD 19 .any with
 | .ptr i 0, .map j, .ptr k 0 => .ret (i, j, k)
 | _, _, _ => .fail "files") (fun _ => True) (fun p k => match Nat.beq k 1010 with | true => p.1 | false => match Nat.beq k 1011 with | true => p.2.1 | false => match Nat.beq k 1014 with | true => p.2.2 | false => k) (fun _ => tms 0 120 aRg) (fun _ => uDO PV O us pp qq da sa ++ oRg0 ok nk ck tr) (fun _ => .leaf (.exit 0) (tms 0 120 [(0, .ptr 0 0), (3, .ptr 1010 0), (4, nilS), (5, .map 1011)]) (uDO PV O us pp qq da sa ++ [(1010, JE' ok nk ck tr), (1011, lfM (sB 1012 qq)), (1012, rB sa)]))
def nmF (l : List (Nat × Nat)) (k : Nat) : Nat := match l with
 | [] => k
 | x :: l => match Nat.beq k x.1 with | true => x.2 | false => nmF l k
def tSt : TypeId := 2 * 9
def aOt0 : List (Nat × AV) := [(4, nilS), (5, .map 1011), (104, .slice 1015 0 1 1 (.lo 1)), (105, iv 1), (106, iv 0)]
def oOt0 (n : Nat) (R : Bs) : LH := [(1011, lfM (sB 1012 n)), (1012, rB R), (1015, .cells [sv nm1] tSt)]
def aOt1 : List (Nat × AV) := [(4, .slice 1016 0 1 2 (.lo 1)), (5, .map 1011), (104, .slice 1015 0 1 1 (.lo 1)), (105, iv 1), (106, iv 1)]
def oOt1 (n : Nat) (R : Bs) : LH := [(1011, lfM (sB 1012 n)), (1012, rB R), (1015, .cells [sv nm1] tSt), (1016, .cells [sv nm1, sB 1012 n] tAf)]
def kOt : List Nat := [1011, 1012, 1015, 1016, 1100, 1101, 1102, 1103]
abbrev h44' (z : Cnd) : Cnd := ((f' (Wk (b' true) j')).a ((fe' true).a ((ee' (s' nm1)).a z)))
theorem ZW' (n : Nat) (R : Bs) (F : HP) : AS' [] (AC' [ht' fCr 20 0, (fCr, 23, 0, hv (iv 1))]) [] default fCr (A4' fCr 20) (tms 0 120 aOt0) (oOt0 n R) kOt [4, 5, 104, 105, 106] F = VT.leaf (AX.normal,[AV.slice 1101 0 1 2 (Cp.lo 1),AV.map 1011,AV.slice 1015 0 1 1 (Cp.lo 1),i' 1,i' 1],120) [some (AO.map [(s' nm1,AV.slice 1012 0 n 1 (Cp.lo n),0)] 1),some (AO.cells (rowV encB R) 10),some (AO.cells [s' nm1] 18),none,some (AO.cells [s' nm1,AV.slice 1012 0 n 1 (Cp.lo n)] 108),some (AO.cells [s' nm1,AV.slice 1012 0 n 1 (Cp.lo n)] 108),none,none] 1102 (h44' ((f' (findKey Tryz.prog (envW [] (AC' [(19,20,0,hv j'),(19,23,0,hv (i' 1))]) [] default F) 9 (s' nm1) [(s' nm1,AV.slice 1012 0 n 1 (Cp.lo n),0)] 0 = AP.ret (some (0,AV.slice 1012 0 n 1 (Cp.lo n))))).a (k11'.a (k15'.a k1')))) := χ
theorem ZV' (n : Nat) (R : Bs) (F : HP) : AS' [] (AC' [hf' fCr 20 0]) [] default fCr (A4' fCr 20) (tms 0 120 aOt1) (oOt1 n R) kOt [4, 5, 104, 105, 106] F = VT.leaf (AX.exit 6,[AV.slice 1016 0 1 2 (Cp.lo 1),AV.map 1011,AV.slice 1015 0 1 1 (Cp.lo 1),i' 1,i' 1],120) [some (AO.map [(s' nm1,AV.slice 1012 0 n 1 (Cp.lo n),0)] 1),some (AO.cells (rowV encB R) 10),some (AO.cells [s' nm1] 18),some (AO.cells [s' nm1,AV.slice 1012 0 n 1 (Cp.lo n)] 108),none,none,none,none] 1100 (k7'.a k1') := χ
def lOt (n : Nat) (R : Bs) : List AV -> AP (AX × List AV) := mkL (fun tmps => match tmps.getD 5 .any, tmps.getD 104 .any with
 | .map j, .slice i _ _ _ _ => .read j fun o => match o with
  | .map [(_, .slice k _ _ _ _, _)] _ => .ret [(1011, j), (1012, k), (1015, i)]
  | _ => .fail "names"
 | _, _ => .fail "names") (fun _ => True) nmF (fun _ => tms 0 120 aOt0) (fun _ => oOt0 n R) (fun _ => .leaf (.exit 6) (tms 0 120 [(4, .slice 1016 0 1 2 (.lo 1))]) [(1012, rB R), (1016, .cells [sv nm1, sB 1012 n] tAf)])
def kC6 : List Nat := [0, 1001, 1002, 1003, 1004, 1005, 1100, 1101, 1102, 1103, 1104, 1105, 1106, 1107, 1108, 1109, 1110, 1111, 1112, 1113, 1114, 1115, 1116, 1117, 1118, 1119, 1120, 1121, 1122, 1123, 1124, 1125, 1126, 1127, 1128, 1129, 1130]
abbrev y1' : Δ := ByteArray.mk (Array.mk [108, 111, 103, 46, 49])
abbrev k45' (q0 q1 q2 q3 q4 q5 q6 q7 q8 q9 q10 : Nat) (q11 : Bs) (q12 q13 q14 q15 : Nat) : Cnd := (p' (OW (AO.cells (AV.rens (sgN (fun k => match k.beq q0 with | true => (q1,q1 + 1,q1 + 1 + 1).fst | false => match k.beq q2 with | true => (q1,q1 + 1,q1 + 1 + 1).snd.fst | false => match k.beq q3 with | true => (q1,q1 + 1,q1 + 1 + 1).snd.snd | false => k) [q4,q5,q6,q7,q8,q0,q2,q9] q10) (rowV encB q11)) 10) (AO.cells (AV.rens (nmF [(q2,q12),(q9,q13),(q14,q15)]) (rowV encB q11)) 10)))
abbrev k46' (q0 q1 q2 : Nat) : Cnd := (p' (VW (AV.ptr 0 0::a'::a'::AV.ptr q0 0::e'::AV.map q1::ra16 (ra8 (a'::a'::AV.ptr 0 0::AV.ptr 0 0::AV.ptr 0 1::e'::i' 0::i' 0::g'::ra16 (ra16 (ra16 (ra16 (AV.ptr 0 0::AV.slice q2 0 1 1 (Cp.lo 1)::i' 1::i' 0::ra8 (ra4 (a'::[]))))))))) (ra4 (e'::AV.map q1::ra16 (ra16 (ra16 (ra16 (ra16 (ra16 (a'::a'::AV.slice q2 0 1 1 (Cp.lo 1)::i' 1::i' 0::ra8 (ra4 (a'::[]))))))))))))
abbrev k47' : Cnd := ((fe' true).a t')
abbrev k48' : Cnd := (ow' (AO.map [] 0))
abbrev k49' (q0 : Option Addr) (q1 q2 : Nat) (q3 : Int) : Cnd := (ow' (AO.cells [AV.v (Value.slice q0 q1 q2),z' q3] 94))
abbrev k50' (q0 : AO) (q1 q2 q3 q4 : Nat) : Cnd := (p' (OW q0 (AO.ren (fun k => match k.beq q1 with | true => (q2,q2 + 1,q2 + 1 + 1).fst | false => match k.beq q3 with | true => (q2,q2 + 1,q2 + 1 + 1).snd.fst | false => match k.beq q4 with | true => (q2,q2 + 1,q2 + 1 + 1).snd.snd | false => k) q0)))
abbrev k51' (q0 : Bs) (q1 q2 q3 q4 : Nat) : Cnd := (p' (OW (AO.cells (rowV encB q0) 10) (AO.cells (AV.rens (fun k => match k.beq q1 with | true => (q2,q2 + 1,q2 + 1 + 1).fst | false => match k.beq q3 with | true => (q2,q2 + 1,q2 + 1 + 1).snd.fst | false => match k.beq q4 with | true => (q2,q2 + 1,q2 + 1 + 1).snd.snd | false => k) (rowV encB q0)) 10)))
abbrev k52' (q0 q1 q2 q3 : Nat) : Cnd := (ow' (AO.cells [AV.slice q0 0 q1 1 (Cp.lo q1),AV.slice q2 0 q3 1 (Cp.lo q3)] 148))
abbrev k53' (q0 : Nat) (q1 : Int) : Cnd := (ow' (AO.cells [AV.map q0,e',i' 1099511627776,z' q1] 142))
abbrev k54' (q0 : Option Addr) (q1 q2 : Nat) (q3 : Int) (q4 q5 q6 q7 : Nat) : Cnd := (p' (VW (AV.ptr 0 0::AV.agg [AV.v (Value.slice q0 q1 q2),z' q3]::u'::AV.ptr q4 0::e'::AV.map q5::ru8 (AV.map q5::AV.ptr 0 0::AV.ptr 0 0::AV.ptr 0 0::AV.map q6::AV.ptr q7 0::ru16 (ru16 (ru16 (ru16 (ru16 (ru16 (ru4 ([]))))))))) (AV.ptr 0 0::a'::a'::AV.ptr q4 0::e'::AV.map q5::ra8 (ra4 (a'::AV.ptr q7 0::ra16 (ra16 (ra16 (ra16 (ra16 (ra16 (ra4 ([]))))))))))))
theorem b1' (us tr : Int) (pp qq nk ck : Nat) (ok : Option Addr) (da sa : Bs) (O : AO) (F : HP) : wRun [(fSo, cSo)] AV' [(fCr, 3, A4' fCr 3, lRg us tr pp qq nk ck ok da sa nilS O), (fCr, 20, A4' fCr 20, lOt qq sa)] default fCr [.ptr 0 0, EN' ok nk ck tr] (uDO nilS O us pp qq da sa) kC6 F = VT.ite false (VT.bad "indexAddr") (VT.leaf (AV.slice 1114 0 1 2 (Cp.lo 1)) [some (AO.cells [AV.map 1103,e',i' 1099511627776,z' us] 142),none,none,none,none,none,none,none,none,some (AO.map [(s' nm1,AV.ptr 1104 0,0)] 1),some (AO.cells [AV.slice 1105 0 pp 1 (Cp.lo pp),AV.slice 1106 0 qq 1 (Cp.lo qq)] 148),some (AO.cells (AV.rens (sgN (fun k => match k.beq 1010 with | true => (1100,1100 + 1,1100 + 1 + 1).fst | false => match k.beq 1011 with | true => (1100,1100 + 1,1100 + 1 + 1).snd.fst | false => match k.beq 1014 with | true => (1100,1100 + 1,1100 + 1 + 1).snd.snd | false => k) [1001,1002,1003,1004,1005,1010,1011,1012] 1103) (rowV encB da)) 10),some (AO.cells (AV.rens (sgN (fun k => match k.beq 1010 with | true => (1100,1100 + 1,1100 + 1 + 1).fst | false => match k.beq 1011 with | true => (1100,1100 + 1,1100 + 1 + 1).snd.fst | false => match k.beq 1014 with | true => (1100,1100 + 1,1100 + 1 + 1).snd.snd | false => k) [1001,1002,1003,1004,1005,1010,1011,1012] 1103) (rowV encB sa)) 10),some (AO.ren (sgN (fun k => match k.beq 1010 with | true => (1100,1100 + 1,1100 + 1 + 1).fst | false => match k.beq 1011 with | true => (1100,1100 + 1,1100 + 1 + 1).snd.fst | false => match k.beq 1014 with | true => (1100,1100 + 1,1100 + 1 + 1).snd.snd | false => k) [1001,1002,1003,1004,1005,1010,1011,1012] 1103) O),some (AO.cells [AV.v (Value.slice ok nk ck),z' tr] 94),none,none,some (AO.cells [AV.map 1103] 136),none,some (AO.cells (AV.rens (sgN (nmF [(1011,1109),(1012,1110),(1015,1112)]) [1012,1016] 1113) (rowV encB sa)) 10),some (AO.cells [s' nm1,AV.slice 1113 0 qq 1 (Cp.lo qq)] 108),none,none,none,none,none,none,none,none,none,none,none,none,none,none,none,none] 1115 (k10'.a ((p' ((fCr,3,A4' fCr 3,lRg us tr pp qq nk ck ok da sa nilS O).snd.snd.fst = (fCr,3,A4' fCr 3,lRg us tr pp qq nk ck ok da sa nilS O).snd.snd.fst)).a (k4'.a ((k54' ok nk ck tr 1100 1101 1001 1102).a ((k53' 1001 us).a ((ow' (AO.map [(s' nm1,AV.ptr 1002 0,0)] 1)).a ((k52' 1003 pp 1004 qq).a ((k51' da 1010 1100 1011 1014).a ((k51' sa 1010 1100 1011 1014).a ((k50' O 1010 1100 1011 1014).a ((k49' ok nk ck tr).a (k48'.a ((ow' (AO.miter (some 1001) 1 [] 1)).a (k10'.a (k47'.a ((p' ((fCr,20,A4' fCr 20,lOt qq sa).snd.snd.fst = (fCr,20,A4' fCr 20,lOt qq sa).snd.snd.fst)).a (k4'.a ((k46' 1108 1109 1112).a ((ow' (AO.map [(s' nm1,AV.slice 1110 0 qq 1 (Cp.lo qq),0)] 1)).a ((k45' 1010 1100 1011 1014 1001 1002 1003 1004 1005 1012 1103 sa 1109 1110 1015 1112).a ((p' (OW (AO.cells [s' y1'] 18) (AO.cells [s' nm1] 18))).a k1')))))))))))))))))))))) := χ
end
theorem X3' (us tr : Int) (pp nk ck : Nat) (ok : Option Addr) (da sa : Bs) (PV : AV) (O : AO) (hb : sa.length <= big) (hp : 0 < sa.length) (hPV : ∀ l : List (Nat × Nat), PV.ren (sg ([(1001, 1001), (1002, 1002), (1003, 1003), (1004, 1004), (1005, 1005)] ++ l)) = PV) (hO : ∀ l : List (Nat × Nat), O.ren (sg ([(1001, 1001), (1002, 1002), (1003, 1003), (1004, 1004), (1005, 1005)] ++ l)) = O) :
  LTri Θ default (A4' fCr 3) (tms 0 120 aRg) (uDO PV O us pp sa.length da sa ++ oRg0 ok nk ck tr) (.exit 0) (tms 0 120 [(0, .ptr 0 0), (3, .ptr 1010 0), (4, nilS), (5, .map 1011)]) (uDO PV O us pp sa.length da sa ++ [(1010, JE' ok nk ck tr), (1011, lfM (sB 1012 sa.length)), (1012, rB sa)]) := by
 refine AT' (W := default) (g := fCr) (b := A4' fCr 3) (σ := Bool) 120 (fun _ => aRg) (fun s => match s with | false => uDO PV O us pp sa.length da sa ++ oRg0 ok nk ck tr | true => uDO PV O us pp sa.length da sa ++ oRg1 ok nk ck tr sa.length sa) (.exit 0) [(0, .ptr 0 0), (3, .ptr 1010 0), (4, nilS), (5, .map 1011)] (uDO PV O us pp sa.length da sa ++ [(1010, JE' ok nk ck tr), (1011, lfM (sB 1012 sa.length)), (1012, rB sa)]) (fun s => match s with | false => 1 | true => 0) kRg [0, 3, 4, 5, 19] (by intro h; cases h) (fun s => by cases s <;> rfl) rfl ?_ false; intro s
 cases s with
 | false =>
  refine ⟨[(fCl, cClB sa.length sa)], AC' [ht' fCr 3 1], [], fun F hF => BA' (BP' hb hp F), fun _ _ => noL, fun F => ?_⟩
  refine Yj (YV' us tr pp sa.length nk ck ok da sa PV O F) ⟨⟨?_, rfl, .inl ⟨rfl, true, Nat.lt_succ_self 0, [(1001, 1001), (1002, 1002), (1003, 1003), (1004, 1004), (1005, 1005), (1010, 1010), (1011, 1011), (1012, 1100), (1014, 1014)], by kernel_rfl, by kernel_rfl, ⟨Ya, Ya, Ya, Ya, Ya, Ye⟩, ⟨_, rfl, OW.of_eq ?_⟩, ⟨_, rfl, Yc⟩, ⟨_, rfl, Yc⟩, ⟨_, rfl, A5' rfl rfl⟩, ⟨_, rfl, A5' (A1' _ _) rfl⟩, ⟨_, rfl, OW.of_eq (hO _).symm⟩, ⟨_, rfl, Yc⟩, ⟨_, rfl, Yc⟩, ⟨_, rfl, A5' (A1' _ _) rfl⟩, ⟨_, rfl, Yc⟩, Ye⟩⟩⟩
  ·simp only [Cnd.holds, true_and, and_true]; and_intros; all_goals exact Kw34'
  ·simp only [dkC, AO.ren, AV.rens]; have := hPV [(1010, 1010), (1011, 1011), (1012, 1100), (1014, 1014)]; simp only [List.cons_append, List.nil_append] at this; rw [this]; rfl
 | true =>
  refine ⟨[], AC' [hf' fCr 3 1], [], fun _ _ => noC, fun _ _ => noL, fun F => ?_⟩
  refine Yj (YU' us tr pp sa.length nk ck ok da sa PV O F) ⟨⟨?_, rfl, .inr ⟨rfl, [(1001, 1001), (1002, 1002), (1003, 1003), (1004, 1004), (1005, 1005), (1010, 1010), (1011, 1011), (1012, 1012)], by kernel_rfl, by kernel_rfl, ⟨Ya, Ya, Ya, Ya, Ye⟩, ⟨_, rfl, OW.of_eq ?_⟩, ⟨_, rfl, Yc⟩, ⟨_, rfl, Yc⟩, ⟨_, rfl, A5' rfl rfl⟩, ⟨_, rfl, A5' rfl rfl⟩, ⟨_, rfl, OW.of_eq (hO _).symm⟩, ⟨_, rfl, Yc⟩, ⟨_, rfl, Yc⟩, ⟨_, rfl, A5' rfl rfl⟩, Ye⟩⟩⟩
  ·simp only [Cnd.holds, and_true]; exact A3' rfl
  ·simp only [dkC, AO.ren, AV.rens]; have := hPV [(1010, 1010), (1011, 1011), (1012, 1012)]; simp only [List.cons_append, List.nil_append] at this; rw [this]; rfl
theorem XI' (n : Nat) (R : Bs) : LTri Θ default (A4' fCr 20) (tms 0 120 aOt0) (oOt0 n R) (.exit 6) (tms 0 120 [(4, .slice 1016 0 1 2 (.lo 1))]) [(1012, rB R), (1016, .cells [sv nm1, sB 1012 n] tAf)] := by
 refine AT' (W := default) (g := fCr) (b := A4' fCr 20) (σ := Bool) 120 (fun s => match s with | false => aOt0 | true => aOt1) (fun s => match s with | false => oOt0 n R | true => oOt1 n R) (.exit 6) [(4, .slice 1016 0 1 2 (.lo 1))] [(1012, rB R), (1016, .cells [sv nm1, sB 1012 n] tAf)] (fun s => match s with | false => 1 | true => 0) kOt [4, 5, 104, 105, 106] (by intro h; cases h) (fun s => by cases s <;> rfl) rfl ?_ false; intro s
 cases s with
 | false =>
  refine ⟨[], AC' [ht' fCr 20 0, (fCr, 23, 0, hv (iv 1))], [], fun F hF => noC, fun _ _ => noL, fun F => ?_⟩
  refine Yj (ZW' n R F) ⟨⟨?_, rfl, .inl ⟨rfl, true, Nat.lt_succ_self 0, [(1011, 1011), (1012, 1012), (1015, 1015), (1016, 1101)], by kernel_rfl, by kernel_rfl, ⟨Ya, Ya, Ya, Ya, Ya, Ye⟩, ⟨_, rfl, Yc⟩, ⟨_, rfl, A5' rfl rfl⟩, ⟨_, rfl, Yc⟩, ⟨_, rfl, Yc⟩, Ye⟩⟩⟩
  simp only [Cnd.holds, true_and, and_true]; and_intros; all_goals exact Kw37'
 | true =>
  refine ⟨[], AC' [hf' fCr 20 0], [], fun _ _ => noC, fun _ _ => noL, fun F => ?_⟩
  refine Yj (ZV' n R F) ⟨⟨?_, rfl, .inr ⟨rfl, [(1012, 1012), (1016, 1016)], by kernel_rfl, by kernel_rfl, ⟨Ya, Ye⟩, ⟨_, rfl, A5' rfl rfl⟩, ⟨_, rfl, Yc⟩, Ye⟩⟩⟩
  simp only [Cnd.holds, and_true]; exact A3' rfl
theorem lOt_ok {W : World} (n : Nat) (R : Bs) (F : HP) (hF : AF' W F) : L1OK Θ F (A4' fCr 20) (lOt n R) :=
 B7' (W := default) B8' (fun args => by
  split
  ·refine RO.read _ _ fun o => ?_
   split <;> first | exact RO.ret _ | exact RO.fail _
  ·exact RO.fail _) (fun _ _ => XI' n R) fun _ => by
  simp only [RT.pick]; exact AY' rfl rfl (A0' Ye (A0' rfl (A0' rfl (A0' Ye (A0' Ye A2'))))) (A0' ⟨Ye, rfl, Ye⟩ (A0' (AB' _ _) (A0' ⟨Ye, Ye⟩ A2'))) (A0' rfl A2') (A0' (AB' _ _) (A0' ⟨Ye, rfl, Ye⟩ A2'))
theorem lRg_ok {W : World} (us tr : Int) (pp nk ck : Nat) (ok : Option Addr) (da sa : Bs) (PV : AV) (O : AO) (hb : sa.length <= big) (hp : 0 < sa.length) (hPV : ∀ l : List (Nat × Nat), PV.ren (sg ([(1001, 1001), (1002, 1002), (1003, 1003), (1004, 1004), (1005, 1005)] ++ l)) = PV) (hO : ∀ l : List (Nat × Nat), O.ren (sg ([(1001, 1001), (1002, 1002), (1003, 1003), (1004, 1004), (1005, 1005)] ++ l)) = O)
  (cPV : ∀ K : Nat -> Bool, K 1005 = true -> AV.cl K PV) (cO : ∀ K, O.cl K) (F : HP) : L1OK Θ F (A4' fCr 3) (lRg us tr pp sa.length nk ck ok da sa PV O) :=
 B7' (W := default) B8' (fun args => by split <;> first | exact RO.ret _ | exact RO.fail _) (fun _ _ => X3' us tr pp nk ck ok da sa PV O hb hp hPV hO) fun _ => by
  simp only [RT.pick]
  exact AY' rfl rfl (A0' rfl (A0' rfl (A0' Ye (A0' rfl (A0' rfl A2')))))
   (A0' ⟨rfl, cPV _ rfl, Ye, Ye, Ye⟩ (A0' ⟨Ye, rfl, Ye⟩ (A0' ⟨rfl, rfl, Ye⟩ (A0' (AB' _ _) (A0' (AB' _ _) (A0' (cO _) (A0' ⟨Ye, Ye, Ye⟩ (A0' Ye (A0' rfl A2')))))))))
   (A0' rfl (A0' rfl (A0' Ye (A0' rfl A2'))))
   (A0' ⟨rfl, cPV _ rfl, Ye, Ye, Ye⟩ (A0' ⟨Ye, rfl, Ye⟩ (A0' ⟨rfl, rfl, Ye⟩ (A0' (AB' _ _) (A0' (AB' _ _) (A0' (cO _) (A0' ⟨Ye, Ye, Ye⟩ (A0' ⟨Ye, rfl, Ye⟩ (A0' (AB' _ _) A2')))))))))
def outH (n : Nat) (R : Bs) : LH := [(1030, .cells [sv nm1, sB 1031 n] tAf), (1031, rB R)]
abbrev fDf : Nat := 74
abbrev fIx : Nat := 98
abbrev fGe : Nat := 32
abbrev fRd : Nat := 33
abbrev fCu : Nat := 36
theorem aZ' (F : HP) : wRun [] (AC' [hf' fIx 2 0, ht' fDf 2 1]) [] default fDf [nilS, .any] [] [] F = VT.leaf (e') [] 1100 (((f' (Wk (b' false) g')).a t').a (k5'.a k1')) := χ
def aDo0 : List (Nat × AV) := [(6, .ptr 1040 0), (7, sv ⟨⟨[]⟩⟩), (14, .slice 1030 0 1 2 (.lo 1)), (15, iv 1), (16, iv 0)]
def kDo : List Nat := [1030, 1031, 1040, 1041, 1042, 1043, 1044, 1100, 1101, 1102, 1103, 1104, 1105, 1106]
theorem df_z : Tri Θ default fDf [nilS, .any] [] nilS [] := by
 refine AJ' (con := []) (hints := AC' [hf' fIx 2 0, ht' fDf 2 1]) (lc := []) [] rfl (fun _ _ => noC) (fun F _ => noL) fun F => ?_
 refine Yj (aZ' F) ⟨⟨?_, (AR' (vs' := [nilS]) (H' := []) [] rfl rfl (Yb) trivial).fits rfl⟩⟩; simp only [Cnd.holds, and_true]; exact ⟨A3' rfl, A3' rfl⟩
def lgO (g e : Int) : AO := .cells [.ptr 0 0, sv nmL, iv g, iv e] tLg
def slR (m : Nat) : AV := .slice 1016 0 m 1 (.lo m)
def nm0 : List AV -> AP Nat := fun args => match args with | .slice i _ _ _ _ :: _ => .ret i | _ => .fail "row"
def cWh (n m e : Nat) (R : Bs) (O : AO) : List AV -> Option (AP AV) := mkC nm0 (fun _ => True) nmW (fun _ => [sB 0 n]) (fun _ => [(0, rB R)]) (fun _ => .leaf .ret [.tuple [.slice 1000 0 m 1 (.lo m), iv (Int.ofNat e)]] [(0, rB R), (1000, O)])
def cClP (e : Nat) (R D : Bs) : List AV -> Option (AP AV) := mkC nm0 (fun _ => True) nmW (fun _ => [.slice 0 0 e 1 (.ex e)]) (fun _ => [(0, rB R)]) (fun _ => .leaf .ret [sB 1000 e] [(0, rB R), (1000, rB D)])
def cCl2 (n e : Nat) (R D : Bs) : List AV -> Option (AP AV) := fun args => match args with
 | [.slice _ _ _ _ (.ex _)] => cClP e R D args
 | _ => cClB n R args
def cDf : List AV -> Option (AP AV) := mkC (fun _ => .ret ()) (fun _ => True) (fun _ k => k) (fun _ => [nilS, .any]) (fun _ => []) (fun _ => .leaf .ret [nilS] [])
def aOa0 : List (Nat × AV) := [(0, .ptr 0 0), (7, .ptr 1020 0), (8, nilS), (37, .slice 1015 0 1 1 (.lo 1)), (38, iv 1), (39, iv 0)]
def aOa1 (m : Nat) : List (Nat × AV) := [(0, .ptr 0 0), (7, .ptr 1020 0), (8, slR m), (37, .slice 1015 0 1 1 (.lo 1)), (38, iv 1), (39, iv 1)]
def kOa : List Nat := [0, 1001, 1002, 1003, 1004, 1015, 1016, 1020, 1100, 1101, 1102, 1103, 1104, 1105]
def aOb (m i : Nat) : List (Nat × AV) := [(0, .ptr 0 0), (7, .ptr 1020 0), (8, slR m), (77, .slice 1015 0 1 1 (.lo 1)), (78, iv 1), (79, iv (Int.ofNat i))]
def gOp (x8 x37 : Nat) (tmps : List AV) : AP (List (Nat × Nat)) := match tmps.getD 7 .any, tmps.getD x37 .any with
 | .ptr i 0, .slice j _ _ _ _ => .read 0 fun o => match o with
  | .cells [.map m, _, _, _] _ => .read m fun o => match o with
   | .map [(_, .ptr f 0, _)] _ => .read f fun o => match o with
    | .cells [.slice x _ _ _ _, .slice y _ _ _ _] _ => match tmps.getD x8 .any with
     | .slice q _ _ _ _ => .ret [(1001, m), (1002, f), (1003, x), (1004, y), (1020, i), (1015, j), (1016, q)]
     | _ => .ret [(1001, m), (1002, f), (1003, x), (1004, y), (1020, i), (1015, j)]
    | _ => .fail "file"
   | _ => .fail "files"
  | _ => .fail "disk"
 | _, _ => .fail "log"
def kOp : List Nat := [0, 1001, 1002, 1003, 1004, 1100, 1101, 1102, 1103, 1104, 1105, 1106, 1107, 1108, 1109, 1110, 1111, 1112, 1113, 1114, 1115, 1116, 1117, 1118, 1119, 1120, 1121, 1122, 1123, 1124, 1125]
theorem IM' : ∀ (n : Nat) (b : Bs), b.length <= n -> (cat (AA' b)).length <= b.length := by
 intro n
 induction n with
 | zero =>
  intro b hb; have : b = [] := List.length_eq_zero_iff.1 ω; subst this; rw [BS' rfl]; exact Nat.zero_le _
 | succ n ih =>
  intro b hb
  cases hu : unwB b with
  | none => rw [BS' hu]; exact Nat.zero_le _
  | some d =>
   have hl := GY' hu; have := ih (b.drop (8 + d.length)) (by rw [List.length_drop]; omega); rw [List.length_drop] at this; rw [GK' hu, DB', List.length_append, B2']; omega
theorem IA' : ∀ args, RO (nm0 args) := fun args => by unfold nm0; split <;> first | exact RO.ret _ | exact RO.fail _
theorem PT' {W : World} (hN : LN W) {R : Bs} (hsz : R.length <= 1099511627776) (hw : AA' R ≠ []) (F : HP) (hF : AF' W F) : C1OK Θ F fWh (cWh R.length (AA' R).length (cat (AA' R)).length R (rbO (AA' R))) := by
 have hp : 0 < R.length := by
  cases R with
  | nil => exact absurd (BS' rfl) hw
  | cons x r => exact Nat.succ_pos _
 exact AX' hF (fun _ => .tuple [.slice 1000 0 (AA' R).length 1 (.lo (AA' R).length), iv (Int.ofNat (cat (AA' R)).length)]) IA' (fun _ => rfl) (fun _ _ => K9' W hN (pre := []) (H' := [(1000, rbO (AA' R))]) (by show _ <= 140737488351232; omega) hp rfl (fun i o h => by
  simp only [getO] at h ⊢
  by_cases e : i = 1000
  ·subst e; exact ⟨δ, by simp⟩
  ·rw [if_neg e] at h; cases h) fun W' hN' oa c h hc => W5' W' hN' oa c R h hc hsz hw) fun _ => ⟨rfl, rfl, ⟨rfl, Ye⟩, A0' (AB' _ _) A2', ⟨⟨rfl, Ye, Ye⟩, Ye⟩, A0' (AB' _ _) (A0' Ye A2')⟩
theorem Q5' {N : Names} {k n sz : Nat} {cp : Cp} {y : Value} (h : VR N (.slice k 0 n sz cp) y) : ∃ l x c, N k = some l /\ y = .slice (some ⟨l.blk, x, none⟩) n c /\ (0 < n -> x = l.off) := by
 simp only [VR] at h; obtain ⟨l, x, c, h1, h2, h3, h4, h5, h6⟩ := h
 refine ⟨l, x, c, h1, h2, fun hn => ?_⟩
 rcases h3 with h3 | h3
 ·rw [h3, Nat.add_zero]
 ·omega
theorem X5' {N : Names} {k : Nat} {D : Nat -> Prop} {w : World} {l : Bs} {e : Nat} {cp : Cp} {y : Value} (hb : l.length <= big) (he : e <= l.length) (hp : 0 < e) (ho : OR N k (rB l) D w) (h : VR N (.slice k 0 e 1 cp) y) : ∃ a c, y = .slice (some a) e c /\ BAt w.cell? (some a) (l.take e) := by
 obtain ⟨lo, x, c, h1, rfl, h3⟩ := Q5' h
 rw [show rB l = .cells (vmap (l.map fun b => .int .u8 b.toNat)) (2 * 5) by rw [rB, DX']] at ho
 obtain ⟨lo', h1', h0, h2⟩ := JH' ho; rw [h1] at h1'; cases h1'
 refine ⟨_, _, rfl, ⟨Nat.le_trans (by rw [List.length_take]; omega) hb, fun i b hi => ⟨_, rfl, ?_⟩⟩⟩
 rw [List.getElem?_take] at hi; split at hi
 ·rw [h3 hp, h0, Nat.mul_one]; have hq := h2 i (.int .u8 b.toNat) (by rw [List.getElem?_map, hi]; rfl)
  have e : ((Addr.mk lo.blk 0 none).add i) = Addr.mk lo.blk i none := by
   unfold Addr.add; split
   ·rename_i hi; subst hi; rfl
   ·show Addr.mk lo.blk (0 + i) none = _; rw [Nat.zero_add]
  rw [e]; exact (EW' hq).2
 ·cases hi
theorem d5' (W : World) {R : Bs} {e : Nat} (hb : R.length <= big) (he : e <= R.length) (hp : 0 < e) : Tri Θ W fCl [.slice 0 0 e 1 (.ex e)] [(0, rB R)] (sB 1000 e) [(0, rB R), (1000, rB (R.take e))] := by
 refine HM' (H := [(0, rB R)]) (H' := [(1000, rB (R.take e))]) rfl rfl (fun i o h => by
  simp only [getO] at h ⊢
  by_cases e : i = 1000
  ·subst e; exact ⟨δ, by simp⟩
  ·rw [if_neg e] at h; cases h) fun W0 F N w vargs hF hNB r ha => ?_
 obtain ⟨y, r1, q1, q2, eq⟩ := ha; have q2 : r1 = [] := q2; subst q2; obtain ⟨D, hO⟩ := r.obj (i := 0) (o := rB R) (by rw [AK' χ]; rfl); obtain ⟨a, c, rfl, hB⟩ := X5' hb he hp hO q1; refine ⟨_, eq, ?_⟩
 have hl : (R.take e).length = e := by rw [List.length_take]; omega
 have := SI' w (some a) c (R.take e) hB ω; rw [hl] at this; exact this
theorem JK' {W : World} {R : Bs} {e : Nat} (hb : R.length <= big) (he : e <= R.length) (hp : 0 < e) (F : HP) (hF : AF' W F) : C1OK Θ F fCl (cCl2 R.length e R (R.take e)) := by
 have c1 : C1OK Θ F fCl (cClP e R (R.take e)) := AX' hF (fun _ => sB 1000 e) IA' (fun _ => rfl) (fun _ _ => d5' W hb he hp) fun _ => ⟨rfl, rfl, ⟨rfl, Ye⟩, A0' (AB' _ _) A2', ⟨rfl, Ye⟩, A0' (AB' _ _) (A0' (AB' _ _) A2')⟩
 have c2 := BP' (l := R) hb ω F; intro st W0 N hh w args vargs v h' n n' lg lg' cc p q1 q2 q3 q4 q5 q6; unfold cCl2 at q1; split at q1
 ·exact c1 st W0 N hh w _ vargs v h' n n' lg lg' cc p q1 q2 q3 q4 q5 q6
 ·exact c2 st W0 N hh w _ vargs v h' n n' lg lg' cc p q1 q2 q3 q4 q5 q6
theorem GF' (F : HP) : C1OK Θ F fDf cDf :=
 AX' (W := default) B8' (fun _ => nilS) (fun _ => RO.ret _) (fun _ => rfl) (fun _ _ => df_z) fun _ => ⟨rfl, rfl, ⟨Ye, Ye, Ye⟩, A2', ⟨Ye, Ye⟩, A2'⟩
theorem VG' (x8 x37 : Nat) : ∀ args, RO (gOp x8 x37 args) := fun args => by
 unfold gOp; split
 ·refine RO.read _ _ fun o => ?_
  split
  ·refine RO.read _ _ fun o => ?_
   split
   ·refine RO.read _ _ fun o => ?_
    split
    ·split <;> exact RO.ret _
    ·exact RO.fail _
   ·exact RO.fail _
  ·exact RO.fail _
 ·exact RO.fail _
noncomputable section
abbrev fSm : Nat := 13
def slQ (i m : Nat) : AV := .slice i 0 m 1 (.lo m)
def aSm (m i : Nat) : List (Nat × AV) := [(0, slQ 0 m), (1, slQ 1 m), (5, iv (Int.ofNat i))]
def oSm (U V : List Value) : LH := [(0, .cells (vmap U) tRb), (1, .cells (vmap V) tRb)]
def hSm (i n p q : Nat) (oa ob : Option Addr) (s : Δ) : BD' := AC' [ht' fSm 4 3, (fSm, 6, 3, hv (slV oa n p)), (fSm, 6, 4, ht s), (fSm, 6, 8, hv (slV ob n q)), (fSm, 6, 9, ht s), hf' fSm 6 10, (fSm, 5, 1, hv (iv (Int.ofNat (i + 1))))]
abbrev h55' (q0 : Δ) (q1 : Nat) (z : Cnd) : Cnd := ((f' (Wk (AV.v (Value.bool !q0.toList == q0.toList)) g')).a ((f' (Wk (z' (IntKind.i64.wrap (Int.ofNat q1 + Int.ofNat 1))) (i' (q1 + 1)))).a z))
abbrev h56' (q0 q1 : Nat) (q2 : List Value) (q3 : Addr) (q4 q5 : Nat) (z : Cnd) : Cnd := ((f' (q0.blt q1 = true)).a (((p' ((0 + q0 * 1).blt (vmap q2).length = true)).a (f' (Wk ((vmap q2).getD (0 + q0 * 1) (u')) (AV.v (Value.slice (some q3) q4 q5))))).a z))
abbrev k57' (q0 q1 : Nat) : Cnd := (wb' (decide (Int.ofNat q0 < ↑q1)) j')
theorem YH' (W : World) (m i n p q : Nat) (a b : Addr) (s : Δ) (U V : List Value) (F : HP) : AS' [] (hSm i n p q (some a) (some b) s) [] W fSm (A4' fSm 4) (tms 0 28 (aSm m i)) (oSm U V) [0, 1] [0, 1, 5] F = VT.leaf (AX.normal,[AV.slice 0 0 m 1 (Cp.lo m),AV.slice 1 0 m 1 (Cp.lo m),i' (i + 1)],28) [some (AO.cells (vmap U) 98),some (AO.cells (vmap V) 98)] 1100 ((k57' i m).a (h56' i m U a n p ((f' (s.size = n /\ ∀ (j : Nat),j < s.size -> (envW [] (hSm i n p q (some a) (some b) s) [] W F).W.cell? (a.add j) = some (Value.int IntKind.u8 ↑(s.data.toList.getD j 0).toNat))).a (h56' i m V b n q ((f' (s.size = n /\ ∀ (j : Nat),j < s.size -> (envW [] (hSm i n p q (some a) (some b) s) [] W F).W.cell? (b.add j) = some (Value.int IntKind.u8 ↑(s.data.toList.getD j 0).toNat))).a (h55' s i k1')))))) := χ
abbrev h58' (q0 q1 : Nat) (q2 : List Value) (q3 q4 : Nat) (q5 : Δ) (z : Cnd) : Cnd := ((f' (q0.blt q1 = true)).a (((p' ((0 + q0 * 1).blt (vmap q2).length = true)).a (f' (Wk ((vmap q2).getD (0 + q0 * 1) (u')) (AV.v (Value.slice none q3 q4))))).a ((f' (q5 = ByteArray.empty)).a z)))
theorem YG' (W : World) (m i n p q : Nat) (a : Addr) (s : Δ) (U V : List Value) (F : HP) : AS' [] (hSm i n p q (some a) none s) [] W fSm (A4' fSm 4) (tms 0 28 (aSm m i)) (oSm U V) [0, 1] [0, 1, 5] F = VT.leaf (AX.normal,[AV.slice 0 0 m 1 (Cp.lo m),AV.slice 1 0 m 1 (Cp.lo m),i' (i + 1)],28) [some (AO.cells (vmap U) 98),some (AO.cells (vmap V) 98)] 1100 ((k57' i m).a (h56' i m U a n p ((f' (s.size = n /\ ∀ (j : Nat),j < s.size -> (envW [] (hSm i n p q (some a) none s) [] W F).W.cell? (a.add j) = some (Value.int IntKind.u8 ↑(s.data.toList.getD j 0).toNat))).a (h58' i m V n q s (h55' s i k1'))))) := χ
theorem YF' (W : World) (m i n p q : Nat) (b : Addr) (s : Δ) (U V : List Value) (F : HP) : AS' [] (hSm i n p q none (some b) s) [] W fSm (A4' fSm 4) (tms 0 28 (aSm m i)) (oSm U V) [0, 1] [0, 1, 5] F = VT.leaf (AX.normal,[AV.slice 0 0 m 1 (Cp.lo m),AV.slice 1 0 m 1 (Cp.lo m),i' (i + 1)],28) [some (AO.cells (vmap U) 98),some (AO.cells (vmap V) 98)] 1100 ((k57' i m).a (h58' i m U n p s (h56' i m V b n q ((f' (s.size = n /\ ∀ (j : Nat),j < s.size -> (envW [] (hSm i n p q none (some b) s) [] W F).W.cell? (b.add j) = some (Value.int IntKind.u8 ↑(s.data.toList.getD j 0).toNat))).a (h55' s i k1'))))) := χ
theorem YE' (W : World) (m i n p q : Nat) (s : Δ) (U V : List Value) (F : HP) : AS' [] (hSm i n p q none none s) [] W fSm (A4' fSm 4) (tms 0 28 (aSm m i)) (oSm U V) [0, 1] [0, 1, 5] F = VT.leaf (AX.normal,[AV.slice 0 0 m 1 (Cp.lo m),AV.slice 1 0 m 1 (Cp.lo m),i' (i + 1)],28) [some (AO.cells (vmap U) 98),some (AO.cells (vmap V) 98)] 1100 ((k57' i m).a (h58' i m U n p s (h58' i m V n q s (h55' s i k1')))) := χ
theorem YD' (W : World) (m i : Nat) (U V : List Value) (F : HP) : AS' [] (AC' [hf' fSm 4 3]) [] W fSm (A4' fSm 4) (tms 0 28 (aSm m i)) (oSm U V) [0, 1] [0, 1, 5] F = VT.leaf (AX.exit 0,[AV.slice 0 0 m 1 (Cp.lo m),AV.slice 1 0 m 1 (Cp.lo m),i' i],28) [some (AO.cells (vmap U) 98),some (AO.cells (vmap V) 98)] 1100 ((wb' (decide (Int.ofNat i < ↑m)) g').a k1') := χ
def lSm (m : Nat) (U V : List Value) : List AV -> AP (AX × List AV) := mkL (fun _ => .ret ()) (fun _ => True) (fun _ k => k) (fun _ => tms 0 28 (aSm m 0)) (fun _ => oSm U V) (fun _ => .leaf (.exit 0) (tms 0 28 []) (oSm U V))
abbrev k59' (q0 : List Value) : Cnd := (p' (OW (AO.cells (vmap q0) 98) (AO.cells (AV.rens (fun k => k) (vmap q0)) 98)))
theorem YC' (W : World) (m : Nat) (U V : List Value) (F : HP) : wRun [] (AC' [hf' fSm 1 4]) [(fSm, 4, A4' fSm 4, lSm m U V)] W fSm [slQ 0 m, slQ 1 m] (oSm U V) [0, 1] F = VT.leaf (b' true) [some (AO.cells (AV.rens (sgN (fun k => k) [] 0) (vmap U)) 98),some (AO.cells (AV.rens (sgN (fun k => k) [] 0) (vmap V)) 98)] 1100 ((wb' ((↑m : Int) != ↑m) g').a ((p' ((fSm,4,A4' fSm 4,lSm m U V).snd.snd.fst = (fSm,4,A4' fSm 4,lSm m U V).snd.snd.fst)).a (k4'.a ((p' (VW (AV.slice 0 0 m 1 (Cp.lo m)::AV.slice 1 0 m 1 (Cp.lo m)::u'::u'::b' false::i' 0::AV.slice 0 0 m 1 (Cp.lo m)::z' ↑m::AV.slice 1 0 m 1 (Cp.lo m)::z' ↑m::g'::ru16 (u'::[])) (AV.slice 0 0 m 1 (Cp.lo m)::AV.slice 1 0 m 1 (Cp.lo m)::a'::a'::a'::i' 0::ra16 (ra4 (a'::a'::[]))))).a ((k59' U).a ((k59' V).a k1')))))) := χ
end
def RowT (C : Mem) (V : List Value) (ls : List Bs) : Prop := ∀ (i : Nat) (l : Bs), ls[i]? = some l -> ∃ (oa : Option Addr) (c : Nat), V[i]? = some (Value.slice oa l.length c) /\ BAt C oa l
theorem RowT.mono {C C' : Mem} (h : ∀ a v, C a = some v -> C' a = some v) {V : List Value} {ls : List Bs} (hr : RowT C V ls) : RowT C' V ls := fun i l hl => by
 obtain ⟨oa, c, h1, h2⟩ := hr i l hl; exact ⟨oa, c, h1, h2.mono h⟩
theorem R2' {V : List Value} {i : Nat} {x : Value} (h : V[i]? = some x) : (0 + i * 1).blt (vmap V).length = true /\ (vmap V).getD (0 + i * 1) AV.undef = .v x := by
 obtain ⟨h1, h2⟩ := List.getElem?_eq_some_iff.1 h; rw [Nat.mul_one, Nat.zero_add]; refine ⟨by rw [Nat.blt_eq, BF']; exact h1, ?_⟩; simp [vmap, List.getD, h]
theorem LW' {W : World} {a : Addr} {l : Bs} (h : BAt W.cell? (some a) l) : (ByteArray.mk ⟨l⟩).size = l.length /\ ∀ j, j < (ByteArray.mk ⟨l⟩).size -> W.cell? (a.add j) = some (.int .u8 (((ByteArray.mk ⟨l⟩).data.toList.getD j 0).toNat : Int)) := by
 refine ⟨rfl, fun j hj => ?_⟩
 have hj : j < l.length := hj; obtain ⟨b, hb⟩ := BU' hj; obtain ⟨a', e, q⟩ := h.2 j b hb; obtain rfl := Option.some.inj e; rw [Nat.mul_one] at q; show _ = some (Value.int .u8 ((l.getD j 0).toNat : Int)); rw [q, List.getD, hb]; rfl
theorem P1' {C : Mem} {l : Bs} (h : BAt C none l) : l = [] := by
 cases l with
 | nil => rfl
 | cons x r => obtain ⟨a, e, _⟩ := h.2 0 x rfl; cases e
theorem WL' (W : World) (m : Nat) (U V : List Value) (ls : List Bs) (hm : ls.length = m) (hmb : m < 9223372036854775807) (hU : RowT W.cell? U ls) (hV : RowT W.cell? V ls) :
  LTri Θ W (A4' fSm 4) (tms 0 28 (aSm m 0)) (oSm U V) (.exit 0) (tms 0 28 []) (oSm U V) := by
 refine AT' (W := W) (g := fSm) (b := A4' fSm 4) (σ := {i : Nat // i <= m}) 28 (fun i => aSm m i.1) (fun _ => oSm U V) (.exit 0) [] (oSm U V) (fun i => m - i.1) [0, 1] [0, 1, 5] (by intro h; cases h) (fun _ => rfl) rfl ?_ ⟨0, Nat.zero_le _⟩; rintro ⟨i, hi⟩; simp only
 have oU : ∀ l : List (Nat × Nat), ∃ o, some (AO.cells (vmap U) tRb) = some o /\ OW o ((AO.cells (vmap U) tRb).ren (sg l)) := fun l => ⟨_, rfl, OW.of_eq (by simp only [AO.ren, AW'])⟩
 have oV : ∀ l : List (Nat × Nat), ∃ o, some (AO.cells (vmap V) tRb) = some o /\ OW o ((AO.cells (vmap V) tRb).ren (sg l)) := fun l => ⟨_, rfl, OW.of_eq (by simp only [AO.ren, AW'])⟩
 by_cases h1 : i < m
 ·obtain ⟨l, hl⟩ := BU' (l := ls) (i := i) ω; obtain ⟨oa, p, u1, u2⟩ := hU i l hl; obtain ⟨ob, q, v1, v2⟩ := hV i l hl; obtain ⟨u3, u4⟩ := R2' u1; obtain ⟨v3, v4⟩ := R2' v1; have e1 : decide (Int.ofNat i < (m : Int)) = true := ltTN h1; have hw := BR' i ω
  have hbl : i.blt m = true := by rw [Nat.blt_eq]; exact h1
  have hne : (!(ByteArray.mk ⟨l⟩).toList == (ByteArray.mk ⟨l⟩).toList) = false := by simp
  refine ⟨[], hSm i l.length p q oa ob ⟨⟨l⟩⟩, [], fun _ _ => noC, fun _ _ => noL, fun F => ?_⟩
  cases oa with
  | none =>
   have hle := P1' u2
   have hs : (ByteArray.mk ⟨l⟩) = ByteArray.empty := by rw [hle]; rfl
   cases ob with
   | none =>
    refine Yj (YE' W m i l.length p q ⟨⟨l⟩⟩ U V F) ⟨⟨?_, rfl, .inl ⟨rfl, ⟨i + 1, h1⟩, BL' h1, [], by kernel_rfl, by kernel_rfl, ⟨Ya, Ya, Ya, Ye⟩, oU _, oV _, Ye⟩⟩⟩
    simp only [Cnd.holds, hbl, u3, u4, v3, v4, true_and, and_true]; and_intros; all_goals first | (with_reducible exact GW' hw) | (with_reducible exact A3' e1) | (with_reducible exact A3' hne) | (with_reducible exact Ya) | exact hs | exact A3' hne | exact Ya
   | some b =>
    have tb := LW' v2
    refine Yj (YF' W m i l.length p q b ⟨⟨l⟩⟩ U V F) ⟨⟨?_, rfl, .inl ⟨rfl, ⟨i + 1, h1⟩, BL' h1, [], by kernel_rfl, by kernel_rfl, ⟨Ya, Ya, Ya, Ye⟩, oU _, oV _, Ye⟩⟩⟩
    simp only [Cnd.holds, hbl, u3, u4, v3, v4, true_and, and_true]; and_intros; all_goals first | (with_reducible exact GW' hw) | (with_reducible exact A3' e1) | (with_reducible exact A3' hne) | (with_reducible exact Ya) | exact hs | exact tb.1 | exact tb.2 | exact A3' hne | exact Ya
  | some a =>
   have ta := LW' u2
   cases ob with
   | none =>
    have hle := P1' v2
    have hs : (ByteArray.mk ⟨l⟩) = ByteArray.empty := by rw [hle]; rfl
    refine Yj (YG' W m i l.length p q a ⟨⟨l⟩⟩ U V F) ⟨⟨?_, rfl, .inl ⟨rfl, ⟨i + 1, h1⟩, BL' h1, [], by kernel_rfl, by kernel_rfl, ⟨Ya, Ya, Ya, Ye⟩, oU _, oV _, Ye⟩⟩⟩
    simp only [Cnd.holds, hbl, u3, u4, v3, v4, true_and, and_true]; and_intros; all_goals first | (with_reducible exact GW' hw) | (with_reducible exact A3' e1) | (with_reducible exact A3' hne) | (with_reducible exact Ya) | exact hs | exact ta.1 | exact ta.2 | exact A3' hne | exact Ya
   | some b =>
    have tb := LW' v2
    refine Yj (YH' W m i l.length p q a b ⟨⟨l⟩⟩ U V F) ⟨⟨?_, rfl, .inl ⟨rfl, ⟨i + 1, h1⟩, BL' h1, [], by kernel_rfl, by kernel_rfl, ⟨Ya, Ya, Ya, Ye⟩, oU _, oV _, Ye⟩⟩⟩
    simp only [Cnd.holds, hbl, u3, u4, v3, v4, true_and, and_true]; and_intros; all_goals first | (with_reducible exact GW' hw) | (with_reducible exact A3' e1) | (with_reducible exact A3' hne) | (with_reducible exact Ya) | exact ta.1 | exact ta.2 | exact tb.2 | exact A3' hne | exact Ya
 ·have hie : i = m := ω
  subst hie
  refine ⟨[], AC' [hf' fSm 4 3], [], fun _ _ => noC, fun _ _ => noL, fun F => ?_⟩
  refine Yj (YD' W i i U V F) ⟨⟨?_, rfl, .inr ⟨rfl, [], by kernel_rfl, by kernel_rfl, Ye, oU _, oV _, Ye⟩⟩⟩
  simp only [Cnd.holds, and_true]; exact A3' (ltFN (Yd))
theorem sm_run (W : World) (m : Nat) (U V : List Value) (ls : List Bs) (hm : ls.length = m) (hmb : m < 9223372036854775807) (hU : RowT W.cell? U ls) (hV : RowT W.cell? V ls) : Tri Θ W fSm [slQ 0 m, slQ 1 m] (oSm U V) (bv true) [] := by
 have hL : ∀ F, AF' W F -> L1OK Θ F (A4' fSm 4) (lSm m U V) := fun F hF =>
  B7' hF (fun _ => RO.ret _) (fun _ _ => WL' W m U V ls hm hmb hU hV) fun _ => by
   simp only [RT.pick]; exact AY' rfl rfl (A0' rfl (A0' rfl (A0' Ye A2'))) (A0' (BM' _ _) (A0' (BM' _ _) A2')) A2' (A0' (BM' _ _) (A0' (BM' _ _) A2'))
 refine AJ' (con := []) (hints := AC' [hf' fSm 1 4]) (lc := [(fSm, 4, A4' fSm 4, lSm m U V)]) [0, 1] rfl (fun F _ => noC) (fun F hF => CK' (hL F hF)) fun F => ?_
 have hmm : (((m : Int)) != (m : Int)) = false := by simp
 refine Yj (YC' W m U V F) ⟨⟨?_, (AR' (vs' := [bv true]) (H' := []) [] rfl rfl (Yb) trivial).fits rfl⟩⟩
 simp only [Cnd.holds, true_and, and_true]; and_intros; all_goals first | (with_reducible exact A3' hmm) | (with_reducible exact Ye) | (with_reducible exact rfl) | exact rfl | exact Kw30'
theorem RI' {C : Mem} {r : List Rs} (h : PB r C) : RowT C (rwV r) (r.map (·.d)) := fun i l hl => by
 rw [List.getElem?_map] at hl
 cases hr : r[i]? with
 | none => rw [hr] at hl; cases hl
 | some x =>
  rw [hr] at hl; cases hl
  exact ⟨x.a, x.c, by rw [rwV, List.getElem?_map, hr]; rfl, (h x (List.mem_of_getElem? hr)).at'⟩
theorem sm_tri (W : World) (V : List Value) (ls : List Bs) (hmb : ls.length < 9223372036854775807) (hV : RowT W.cell? V ls) : Tri Θ W fSm [slQ 0 ls.length, slQ 1 ls.length] [(0, rbO ls), (1, .cells (vmap V) tRb)] (bv true) [] := by
 refine Tri.open (R := fun r : List Rs => r.map (·.d) = ls) (L := rbL) (H0 := [(1, .cells (vmap V) tRb)]) (fun _ => χ) (fun r => A0' (BM' _ _) (A0' Ye A2')) (fun _ => ⟨_, rfl⟩) fun r hr => ?_
 have h := WG' (P := Θ) (W := W) (f := fSm) (A := [slQ 0 ls.length, slQ 1 ls.length]) (H1 := oSm (rwV r) V) (H1' := []) (v := bv true) (PR := PB r) 1009 δ rfl rfl χ rfl ⟨rfl, rfl, Ye⟩ (A0' (BM' _ _) (A0' (BM' _ _) A2')) (fun C C' h hP => hP.mono h)
  (fun W' hW hP => sm_run W' ls.length (rwV r) V ls rfl hmb (hr ▸ RI' hP) (hV.mono hW))
 refine Tri.pre ?_ (Tri.post h (EM' χ rfl (Yb) (fun i o h => by cases h) ⟨Ye, Ye⟩ A2')); refine EM' χ χ (Yb) (fun i o h => ?_) ⟨rfl, rfl, Ye⟩ (A0' (BM' _ _) (A0' (BM' _ _) (A0' Ye A2'))); simp only [oSm, rbL, List.cons_append, List.nil_append, getO] at h ⊢
 by_cases e0 : i = 0
 ·simpa [e0] using h
 ·by_cases e1 : i = 1
  ·subst e1; simpa using h
  ·by_cases e2 : i = 1009
   ·subst e2; simpa using h
   ·simp [e0, e1, e2] at h
abbrev fCn : Nat := 22
theorem b4' (W : World) (a : Addr) (n c : Nat) (F : HP) : wRun [] (AC' [(fCn, 1, 2, h0)]) [] W fCn [slV (some a) n c] [] [] F = VT.leaf (AV.slice 1100 0 0 1 (Cp.ex 0)) [] 1101 ((f' (n = 0)).a k1') := χ
theorem b3' (W : World) (a : Addr) (n c : Nat) (F : HP) : wRun [] AV' [] W fCn [slV (some a) n c] [] [1100, 1101, 1102, 1103] F = VT.leaf (AV.slice 1101 0 (0 + n) 1 (Cp.lo (0 + n))) [some (AO.cells (rep [AV.v (Value.int IntKind.u8 (Int.ofNat 0))] 0) 10),some (AO.cells ([] ++ vmap (B4' W a (n * 1))) 10),none,none] 1102 ((k8' n W a).a k1') := χ
theorem b2' (W : World) (c : Nat) (F : HP) : wRun [] (AC' [(fCn, 1, 2, h0)]) [] W fCn [slV none 0 c] [] [] F = VT.leaf (AV.slice 1100 0 0 1 (Cp.ex 0)) [] 1101 (k6'.a k1') := χ
def lgA (d : Nat) (sz : Int) : AO := .cells [.ptr d 0, sv nmL, iv 1, iv sz] tLg
def cCnM (oa : Option Addr) (n c : Nat) : List AV -> Option (AP AV) := mkC (fun _ => .ret ()) (fun _ => True) (fun _ k => k) (fun _ => [slV oa n c]) (fun _ => []) (fun _ => .leaf .ret [.mt] [])
def cCnO (oa : Option Addr) (n c : Nat) (r : Bs) : List AV -> Option (AP AV) := mkC (fun _ => .ret ()) (fun _ => True) (fun _ k => k) (fun _ => [slV oa n c]) (fun _ => []) (fun _ => .leaf .ret [sB 1000 n] [(1000, rB r)])
def gAp : List AV -> AP (Nat × Nat × Nat) := fun args => match args with
 | [.ptr l 0, .slice j _ _ _ _] => .read l fun o => match o with
  | .cells (.ptr d 0 :: _) _ => .ret (d, l, j)
  | _ => .fail "log"
 | [.ptr l 0, _] => .read l fun o => match o with
  | .cells (.ptr d 0 :: _) _ => .ret (d, l, 0)
  | _ => .fail "log"
 | _ => .fail "log"
def nmA (p : Nat × Nat × Nat) (k : Nat) : Nat := match k with
 | 0 => p.1
 | 2 => p.2.1
 | 4 => p.2.2
 | k => k
def cApO (sz sz' : Int) (m : Nat) (r : Bs) (D D' : AO) : List AV -> Option (AP AV) := mkC gAp (fun _ => True) nmA (fun _ => [.ptr 2 0, sB 4 m]) (fun _ => [(0, D), (2, lgC sz), (4, rB r)]) (fun _ => .leaf .ret [iv 0] [(0, D'), (2, lgC sz'), (4, rB r)])
def cApM (sz sz' : Int) (D D' : AO) : List AV -> Option (AP AV) := mkC gAp (fun _ => True) nmA (fun _ => [.ptr 2 0, .mt]) (fun _ => [(0, D), (2, lgC sz)]) (fun _ => .leaf .ret [iv 0] [(0, D'), (2, lgC sz')])
def oLk (D : AO) (sz tr : Int) (V : List Value) (ok : Option Addr) (nk ck : Nat) : LH := [(1050, D), (1051, lgA 1050 sz), (1052, .cells (vmap V) tRb), (1053, JE' ok nk ck tr)]
def slA (k : Nat) : AV := .slice 1052 0 k 1 (.lo k)
def a1 (o1 o2 : Option Addr) (n1 c1 n2 c2 k i : Nat) : List (Nat × AV) := [(0, slV o1 n1 c1), (1, slV o2 n2 c2), (5, .ptr 1053 0), (7, .ptr 1050 0), (9, .ptr 1051 0), (10, slA k), (40, slV o1 n1 c1), (41, iv (Int.ofNat n1)), (42, iv (Int.ofNat i))]
def a2 (o1 o2 : Option Addr) (n1 c1 n2 c2 k i : Nat) : List (Nat × AV) := [(0, slV o1 n1 c1), (5, .ptr 1053 0), (7, .ptr 1050 0), (9, .ptr 1051 0), (10, slA k), (61, slV o2 n2 c2), (62, iv (Int.ofNat n2)), (63, iv (Int.ofNat i))]
def kLk : List Nat := [1050, 1051, 1052, 1053, 1100, 1101, 1102, 1103, 1104, 1105, 1106]
theorem W4' {i o s : Nat} : Wk (.slice i o 0 s (.ex 0)) .mt := fun N y h => by
 simp only [VR] at h ⊢; obtain ⟨l, x, c', h1, h2, h3, h4, h5, h6⟩ := h; have h5 : c' = 0 := h5; subst h5; exact ⟨_, h2⟩
theorem S9' : Fits [] [AV.slice 1100 0 0 1 (Cp.ex 0)] [] [AV.mt] [] := (AR' (vs' := [.mt]) (H' := []) [] rfl rfl (VW.cons W4' (Yb)) (show CG' [] [] [] [] from trivial)).fits rfl
theorem cn_mt (W : World) (oa : Option Addr) (c : Nat) : Tri Θ W fCn [slV oa 0 c] [] .mt [] := by
 cases oa with
 | none =>
  refine AJ' (con := []) (hints := AC' [(fCn, 1, 2, h0)]) (lc := []) [] rfl (fun _ _ => noC) (fun F _ => noL) fun F => ?_
  refine Yj (b2' W c F) ⟨⟨?_, S9'⟩⟩; simp [Cnd.holds]
 | some a =>
  refine AJ' (con := []) (hints := AC' [(fCn, 1, 2, h0)]) (lc := []) [] rfl (fun _ _ => noC) (fun F _ => noL) fun F => ?_
  refine Yj (b4' W a 0 c F) ⟨⟨?_, S9'⟩⟩; simp [Cnd.holds]
theorem VN' (W : World) (oa : Option Addr) (c : Nat) (l : Bs) (h : BAt W.cell? oa l) (hp : 0 < l.length) : Tri Θ W fCn [slV oa l.length c] [] (sB 1000 l.length) [(1000, rB l)] := by
 obtain ⟨x, hx⟩ := BU' (l := l) hp; obtain ⟨a, rfl, _⟩ := h.2 0 x hx; have hb : l.length <= 140737488351232 := h.1; have b1 : l.length.ble l.length = true := AP' (Yd); obtain ⟨b2, b3⟩ := HA' h
 have b4 : (vmap (B4' W a (l.length * 1))).all AV.one = true := by rw [b3]; exact KB' l
 have b5 : ((0 + l.length) * 1).ble 140737488355328 = true := AP' ω; have b6 : (0 + l.length).ble 9223372036854775807 = true := AP' ω
 have b8 : 0 < 0 + l.length := ω
 refine AJ' (con := []) (hints := AV') (lc := []) [1100, 1101, 1102, 1103] rfl (fun _ _ => noC) (fun F _ => noL) fun F => ?_
 refine Yj (b3' W a l.length c F) ⟨⟨?_, (AR' (vs' := [sB 1000 l.length]) (H' := [(1000, rB l)]) [(1000, 1101)] rfl rfl (by rw [Nat.zero_add]; exact Yb) ⟨⟨_, rfl, by rw [List.nil_append]; exact A5' b3 rfl⟩, Ye⟩).fits rfl⟩⟩; simp only [Cnd.holds, Nat.blt_eq, true_and, and_true]; exact ⟨b1, b2, b4, hp, b5, b6, b8⟩
theorem PL' : ∀ args, RO (gAp args) := fun args => by
 unfold gAp; split
 ·refine RO.read _ _ fun o => ?_
  split <;> first | exact RO.ret _ | exact RO.fail _
 ·refine RO.read _ _ fun o => ?_
  split <;> first | exact RO.ret _ | exact RO.fail _
 ·exact RO.fail _
structure ArgR (W : World) (o : Option Addr) (l : List Rs) : Prop where
 at' : ∀ (i : Nat) (x : Rs), l[i]? = some x -> ∃ a, o = some a /\ W.cell? (a.add (i * 1)) = some x.val
 el : ∀ x ∈ l, At1 W.cell? x /\ x.d.length <= most
theorem OE' (S : List Bs) : ∀ (rs : List Bs) (i : Nat), (cat (S ++ rs.take i)).length <= (cat (S ++ rs)).length := fun rs i => by
 have : rs = rs.take i ++ rs.drop i := (List.take_append_drop i rs).symm
 conv => rhs; rw [this, <- List.append_assoc, JI', List.length_append]
 omega
theorem dH' {W : World} (hN : LN W) (S rs : List Bs) (r : Bs) (hr : r.length <= most) (hp : 0 < r.length) (hS : 0 < (cat S).length) (hz : (cat (S ++ (rs ++ [r]))).length <= 1099511627776) (hk : rs.length < 1099511627776) (F : HP) (hF : AF' W F) : C1OK Θ F fAp (cApO (Int.ofNat (cat (S ++ rs)).length) (Int.ofNat (cat (S ++ (rs ++ [r]))).length) r.length r (dO S rs) (dO S (rs ++ [r]))) :=
 AX' hF (fun _ => iv 0) PL' (fun _ => rfl) (fun _ _ => ap_tri W S rs r hr hS hz hk fun F hF => VO' hN r hr hp F hF) fun _ => ⟨rfl, rfl, ⟨rfl, rfl, Ye⟩, A0' Ye (A0' ⟨rfl, Ye, Ye, Ye, Ye⟩ (A0' (AB' _ _) A2')), ⟨Ye, Ye⟩, A0' Ye (A0' ⟨rfl, Ye, Ye, Ye, Ye⟩ (A0' (AB' _ _) A2'))⟩
theorem dI' {W : World} (hN : LN W) (S rs : List Bs) (hS : 0 < (cat S).length) (hz : (cat (S ++ (rs ++ [[]]))).length <= 1099511627776) (hk : rs.length < 1099511627776) (F : HP) (hF : AF' W F) : C1OK Θ F fAp (cApM (Int.ofNat (cat (S ++ rs)).length) (Int.ofNat (cat (S ++ (rs ++ [[]]))).length) (dO S rs) (dO S (rs ++ [[]]))) :=
 AX' hF (fun _ => iv 0) PL' (fun _ => rfl) (fun _ _ => dM' W S rs [] (Nat.zero_le _) hS hz hk fun F hF => VP' hN F hF) fun _ => ⟨rfl, rfl, ⟨rfl, Ye, Ye⟩, A0' Ye (A0' ⟨rfl, Ye, Ye, Ye, Ye⟩ A2'), ⟨Ye, Ye⟩, A0' Ye (A0' ⟨rfl, Ye, Ye, Ye, Ye⟩ A2')⟩
structure LkK (W : World) (o : Option Addr) (l : List Rs) (S : List Bs) (V0 : List Value) : Prop where
 hN : LN W
 ar : ArgR W o l
 hS : 0 < (cat S).length
 hz : (cat (S ++ l.map (·.d))).length <= 1099511627776
 hk : V0.length + l.length < 1099511627776
theorem P9' (V : List Value) : List.take (V.length * 1) (List.drop 0 (vmap V)) = vmap V := by rw [List.drop_zero, List.take_of_length_le (by rw [BF', Nat.mul_one]; exact Yd)]
def gLs : List AV -> AP (Nat × Nat × Nat) := fun args => match args with
 | [.ptr l 0] => .read l fun o => match o with
  | .cells (.ptr d 0 :: _) _ => .ret (d, l, 0)
  | _ => .fail "log"
 | _ => .fail "log"
def cLs (sz : Int) (D D' : AO) : List AV -> Option (AP AV) := mkC gLs (fun _ => True) nmA (fun _ => [.ptr 2 0]) (fun _ => [(0, D), (2, lgC sz)]) (fun _ => .leaf .ret [.tuple []] [(0, D'), (2, lgC sz)])
def nmS (p : Nat × Nat) (k : Nat) : Nat := match k with
 | 0 => p.1
 | 1 => p.2
 | k => k
def cSm (m : Nat) (O : AO) (V : List Value) : List AV -> Option (AP AV) := mkC (fun args => match args with | [.slice i _ _ _ _, .slice j _ _ _ _] => .ret (i, j) | _ => .fail "rows") (fun _ => True) nmS (fun _ => [slQ 0 m, slQ 1 m]) (fun _ => [(0, O), (1, .cells (vmap V) tRb)]) (fun _ => .leaf .ret [bv true] [])
def gLk (tmps : List AV) : AP (List (Nat × Nat)) := match tmps.getD 5 .any, tmps.getD 7 .any, tmps.getD 9 .any, tmps.getD 10 .any with
 | .ptr f 0, .ptr d 0, .ptr l 0, .slice a _ _ _ _ => .ret [(1050, d), (1051, l), (1052, a), (1053, f)]
 | _, _, _, _ => .fail "loop"
abbrev zHP : Nat -> Nat -> HP := exHP (fun _ : Unit => True) (fun _ => dZL)
theorem gLs_ro : ∀ args, RO (gLs args) := fun args => by
 unfold gLs; split
 ·refine RO.read _ _ fun o => ?_
  split <;> first | exact RO.ret _ | exact RO.fail _
 ·exact RO.fail _
theorem gLk_ro : ∀ args, RO (gLk args) := fun args => by
 unfold gLk
 split <;> first | exact RO.ret _ | exact RO.fail _
theorem cLs_ok (S rs : List Bs) (sz : Int) (h0 : 0 < (cat S).length) (hz : (cat (S ++ rs)).length <= 1099511627776) (hk : rs.length < 1099511627776) (F : HP) : C1OK Θ F fLs (cLs sz (dO S rs) (dO (S ++ rs) [])) :=
 AX' (W := default) B8' (fun _ => .tuple []) gLs_ro (fun _ => rfl) (fun _ _ => sy_tri S rs sz h0 hz hk) fun _ => ⟨rfl, rfl, ⟨rfl, Ye⟩, A0' Ye (A0' ⟨rfl, Ye, Ye, Ye, Ye⟩ A2'), ⟨Ye, Ye⟩, A0' Ye (A0' ⟨rfl, Ye, Ye, Ye, Ye⟩ A2')⟩
theorem cSm_ok {W : World} (V : List Value) (ls : List Bs) (hmb : ls.length < 9223372036854775807) (hV : RowT W.cell? V ls) (F : HP) (hF : AF' W F) : C1OK Θ F fSm (cSm ls.length (rbO ls) V) :=
 AX' hF (fun _ => bv true) (fun args => by split <;> first | exact RO.ret _ | exact RO.fail _) (fun _ => rfl) (fun _ _ => sm_tri W V ls hmb hV) fun _ => ⟨rfl, rfl, ⟨rfl, rfl, Ye⟩, A0' Ye (A0' (BM' _ _) A2'), ⟨Ye, Ye⟩, A2'⟩
theorem V7' (S rs : List Bs) (sz tr : Int) (V : List Value) (ok : Option Addr) (nk ck : Nat) (K : Nat -> Bool) (h0 : K 1050 = true) : ∀ x ∈ oLk (dO S rs) sz tr V ok nk ck, x.2.cl K :=
 A0' Ye (A0' ⟨h0, Ye, Ye, Ye, Ye⟩ (A0' (BM' _ _) (A0' ⟨Ye, Ye, Ye⟩ A2')))
def wRs (l : List Rs) : Nat := (l.map fun x => x.d.length + 1).sum
theorem P0' (x : Rs) (l : List Rs) : wRs (x :: l) = x.d.length + 1 + wRs l := by simp [wRs]
theorem L0' : ∀ l : List Rs, l.length <= wRs l
 | [] => Yd
 | x :: l => by have := L0' l; rw [P0', List.length_cons]; omega
theorem SJ' : ∀ l : List Rs, (cat (l.map (·.d))).length <= 8 * wRs l
 | [] => Yd
 | x :: l => by
  have := SJ' l; rw [List.map_cons, DB', P0', List.length_append, B2']; omega
open Go.ChangeShapes Go.WideShapes Go.Deep
open Int renaming ofNat -> o'
open AO renaming cells -> ce'
open AV renaming ptr -> pt'
open Cnd renaming holds -> ch'
section
variable {H : Type} {enc : TypeId × Value -> H} {w : World} {base : Nat} {spare : Nat -> Bool} {held : Bool}
theorem bH' {n : Int} (h : (Lit.int .u8 n).wf = true) : 0 <= n /\ n <= 255 := by
 simp only [Lit.wf, Bool.and_eq_true, decide_eq_true_eq] at h
 have h1 : IntKind.u8.min = 0 := δ
 have h2 : IntKind.u8.max = 255 := δ
 rw [h1, h2] at h; exact h
structure RsQ (w : World) (x : Rs) : Prop where
 at' : ∀ (i : Nat) (b : UInt8), x.d[i]? = some b -> ∃ a, x.a = some a /\ w.cell? (a.add (i * 1)) = some (.int .u8 (b.toNat : Int))
 cap : x.d.length <= x.c
def encR (x : Rs) : List Value := [x.val]
theorem encR_len (x : Rs) : (encR x).length = 1 := rfl
def wtR (x : Rs) : Nat := x.d.length + 1
theorem open_bt (fuel : Nat) (cs : List Value) (x : DataW H × List MemPlace) (h : DataW.trod enc Θ w base spare held fuel 49 cs = some x) : ∃ p : Rs, cs = encR p /\ RsQ w p /\ wtR p <= Rows.uptoBulk x.1 := by
 rcases open_slice1 Tryz.underlying49 χ h with ⟨hcs, _⟩ | ⟨a, len, cap, m, n, V, D, Pl, hcs, hb, hl, hm, hmm, hx, hi⟩
 ·exact ⟨⟨[], none, 0⟩, hcs, ⟨fun i b h => (by cases h), Yd⟩, Upto.one_le x.1⟩
 ·have hlm : len <= m := by rw [hmm]; split <;> omega
  have hall : ∀ i : Fin len, ∃ b : UInt8, w.cell? (a.add (i.1 * 1)) = some (.int .u8 b.toNat) := fun i => by
   obtain ⟨hc, ht⟩ := hi i.1 ω; obtain ⟨z, e, _, hz⟩ := DataW.trod_int Tryz.underlying5 ht; obtain ⟨z0, z1⟩ := bH' hz; refine ⟨UInt8.ofNat z.toNat, ?_⟩; rw [Nat.mul_one, hc, (List.cons.inj e).1, UInt8.toNat_ofNat']
   congr 2
   omega
  obtain ⟨g, hg⟩ := Classical.axiomOfChoice hall
  refine ⟨⟨List.ofFn g, some a, cap⟩, by rw [hcs]; simp [encR, Rs.val], ⟨fun j b hj => ?_, by simpa using hl⟩, ?_⟩
  ·replace hj : (List.ofFn g)[j]? = some b := hj
   rw [List.getElem?_ofFn] at hj; split at hj
   ·rename_i hlt; cases hj; exact ⟨a, rfl, hg ⟨j, hlt⟩⟩
   ·cases hj
  ·rw [hx]; refine Nat.le_trans (Nat.succ_le_succ ?_) (Upto.slice_elems _ _); refine Nat.le_trans ?_ (Upto.length_le _); simp
theorem R8' {x : Rs} : ∀ {l : List Rs}, x ∈ l -> wtR x <= (l.map wtR).sum
 | y :: l, h => by
  rw [List.map_cons, List.sum_cons]
  rcases List.mem_cons.1 h with rfl | h
  ·omega
  ·have := R8' h; omega
theorem argR_of {A : Option Addr} {l : List Rs} (h : Rd w A l.length 1 (l.flatMap encR)) (hq : ∀ p ∈ l, RsQ w p) (hb : (l.map wtR).sum <= 1048576) : ArgR w A l where
 at' := fun i x hx => by
  have hi := (List.getElem?_eq_some_iff.1 hx).1; have hp := HT' encR_len l i 0 hi δ; rw [Nat.add_zero, (List.getElem?_eq_some_iff.1 hx).2] at hp; obtain ⟨a, rfl⟩ := h.here ω; exact ⟨a, rfl, h.cells a rfl _ _ hp⟩
 el := fun x hx => by
  have h1 := R8' hx; have h2 : x.d.length + 1 <= 1048576 := Nat.le_trans h1 hb
  exact ⟨⟨⟨by show _ <= 140737488351232; omega, (hq x hx).at'⟩, (hq x hx).cap⟩, by show _ <= 1048576; omega⟩
theorem QI' {fuel : Nat} {cs : List Value} {x : DataW H × List MemPlace} (h : DataW.trod enc Θ w base spare held fuel 47 cs = some x) : ∃ (ok : Option Addr) (kp : List Bool) (ck : Nat) (tr : Int), cs = [.slice ok kp.length ck, .int .i64 tr] /\ (∀ i b, kp[i]? = some b -> ∃ ak, ok = some ak /\ w.cell? (ak.add (i * 1)) = some (.bool b)) /\ kp.length + 1 <= Rows.uptoBulk x.1 := by
 obtain ⟨ys, n, _, hx, hlen, hyl, hf⟩ := DataW.trod_struct Tryz.underlying47 h
 have zI : Θ.cellsOf 3 = 1 := χ
 have zB : Θ.cellsOf 45 = 1 := χ
 match cs, hlen.trans (by kernel_rfl : Θ.cellsOf 47 = 2) with
 | [c0, c1], _ =>
  match ys, hyl with
  | [y0, y1], _ =>
   have h0 : DataW.trod enc Θ w base spare held n 45 [c0] = some y0 := by simpa [zB] using hf 0 _ rfl
   obtain ⟨z, e1, _, _⟩ := DataW.trod_int Tryz.underlying3 (by simpa [zI] using hf 1 _ rfl : DataW.trod enc Θ w base spare held n 3 [c1] = some y1); obtain rfl := (List.cons.inj e1).1
   have hm : y0.1 ∈ List.map (fun y => y.1) [y0, y1] := by simp
   have hag := Upto.agg_part hm
   rcases open_slice1 Tryz.underlying45 χ h0 with ⟨hcs, _⟩ | ⟨a, len, cap, m, k, V, D, Pl, hcs, hb, hl, hmx, hmm, hx0, hi⟩
   ·obtain rfl := (List.cons.inj hcs).1
    exact ⟨none, [], 0, z, rfl, fun i b h => (by cases h), by rw [hx]; exact Nat.le_trans (Upto.one_le y0.1) (Nat.le_trans (Nat.le_succ _) hag)⟩
   ·obtain rfl := (List.cons.inj hcs).1
    have hlm : len <= m := by rw [hmm]; split <;> omega
    have hall : ∀ i : Fin len, ∃ b : Bool, w.cell? (a.add (i.1 * 1)) = some (.bool b) := fun i => by
     obtain ⟨hc, ht⟩ := hi i.1 ω; obtain ⟨b, e, _⟩ := DataW.trod_bool Tryz.underlying4 ht
     exact ⟨b, by rw [Nat.mul_one, hc, (List.cons.inj e).1]⟩
    obtain ⟨g, hg⟩ := Classical.axiomOfChoice hall
    refine ⟨some a, List.ofFn g, cap, z, by simp, fun j b hj => ?_, ?_⟩
    ·rw [List.getElem?_ofFn] at hj; split at hj
     ·rename_i hlt; cases hj; exact ⟨a, rfl, hg ⟨j, hlt⟩⟩
     ·cases hj
    ·rw [hx]; refine Nat.le_trans ?_ (Nat.le_trans (Nat.le_succ _) hag); rw [hx0]; refine Nat.le_trans (Nat.succ_le_succ ?_) (Upto.slice_elems _ _); refine Nat.le_trans ?_ (Upto.length_le _); simp
theorem open_fate {r : Reach} {b0 : Nat} {v : Value} {d : DataW H} {p : List MemPlace} (hv : Value.okWide Θ w r b0 47 v) (h : DataW.Trod enc Θ w base spare held 47 v d p) :
  ∃ (ok : Option Addr) (kp : List Bool) (ck : Nat) (tr : Int), v = .agg #[.slice ok kp.length ck, .int .i64 tr] /\ (∀ i b, kp[i]? = some b -> ∃ ak, ok = some ak /\ w.cell? (ak.add (i * 1)) = some (.bool b)) /\ kp.length + 1 <= Rows.uptoBulk d := by
 obtain ⟨cs, rfl, hsz⟩ := okWide_struct Tryz.underlying47 hv; obtain ⟨fuel, hf⟩ := h; obtain ⟨ok, kp, ck, tr, hc, hk, hb⟩ := QI' hf
 exact ⟨ok, kp, ck, tr, by rw [show cs = #[.slice ok kp.length ck, .int .i64 tr] from Array.ext' hc], hk, hb⟩
end
abbrev nm2 : Δ := ⟨⟨[108, 111, 103, 46, 50]⟩⟩
abbrev nmT : Δ := ⟨⟨[50]⟩⟩
theorem bQ' (W : World) : Tri Θ W fGn [sv nm2] [] (bv true) [] :=
 BW' (args := [.string nm2]) fun w => BH' (args := [.string nm2]) DF' χ (fuel := 1000) (fun w => χ) (w := w) (fun x hx => by cases hx)
theorem HV' (W : World) : Tri Θ W fIt [iv 2] [] (sv nmT) [] :=
 BW' (args := [.int .i64 2]) fun w => BH' (args := [.int .i64 2]) DF' χ (fuel := 1000) (fun w => χ) (w := w) (fun x hx => by cases hx)
theorem d0' (W : World) : Tri Θ W fCx [sv nm2, sv nmD] [] (.v (.tuple #[.string nmT, .bool true])) [] :=
 BW' (args := [.string nm2, .string nmD]) fun w => BH' (args := [.string nm2, .string nmD]) DF' χ (fuel := 1000) (fun w => χ) (w := w) (fun x hx => by cases hx)
theorem dL' (W : World) : Tri Θ W fAt [sv nmT] [] (.v (.tuple #[.int .i64 2, .nilIface])) [] :=
 BW' (args := [.string nmT]) fun w => BH' (args := [.string nmT]) DF' χ (fuel := 1000) (fun w => χ) (w := w) (fun x hx => by cases hx)
def cGm : List AV -> Option (AP AV) := mkC (fun args => match args with | [.v (.string s)] => .ret s | _ => .fail "name") (fun s => s = nm1 \/ s = nmL \/ s = nm2) (fun _ k => k) (fun s => [sv s]) (fun _ => []) (fun _ => .leaf .ret [bv true] [])
theorem EA' (F : HP) : C1OK Θ F fGn cGm :=
 AX' (W := default) B8' (fun _ => bv true) (fun args => by split <;> first | exact RO.ret _ | exact RO.fail _) (fun _ => rfl) (fun s h => by
  rcases h with rfl | rfl | rfl
  ·exact HW' _
  ·exact S6' _
  ·exact bQ' _) fun s => ⟨rfl, rfl, ⟨Ye, Ye⟩, A2', ⟨Ye, Ye⟩, A2'⟩
def cK2 (g : List AV -> AP Bool) (A B : List AV) (u v : AV) : List AV -> Option (AP AV) := mkC g (fun _ => True) (fun _ k => k) (fun b => match b with | false => A | true => B) (fun _ => []) (fun b => match b with | false => .leaf .ret [u] [] | true => .leaf .ret [v] [])
theorem N2' {f : FuncId} {g : List AV -> AP Bool} {A B : List AV} {u v : AV} (hg : ∀ args, RO (g args)) (h : Tri Θ default f A [] u []) (h2 : Tri Θ default f B [] v []) (hA : ∀ K, AV.cls K A) (hB : ∀ K, AV.cls K B) (hu : ∀ K, AV.cl K u) (hv : ∀ K, AV.cl K v) (F : HP) : C1OK Θ F f (cK2 g A B u v) :=
 AX' (W := default) B8' (fun b => match b with | false => u | true => v) hg (fun b => by cases b <;> rfl) (fun b _ => by
  cases b with
  | false => exact h
  | true => exact h2) fun b => by
  cases b with
  | false => exact ⟨rfl, rfl, hA _, A2', ⟨hu _, Ye⟩, A2'⟩
  | true => exact ⟨rfl, rfl, hB _, A2', ⟨hv _, Ye⟩, A2'⟩
def gNm (s : Δ) : AP Bool := match s.data.toList.getLast? with
 | some 49 => .ret false
 | _ => .ret true
def gS2 : List AV -> AP Bool := fun args => match args with
 | .v (.string s) :: _ => gNm s
 | _ => .fail "name"
def gI2 : List AV -> AP Bool := fun args => match args with
 | [.v (.int _ (.ofNat 1))] => .ret false
 | [.v (.int _ (.ofNat 2))] => .ret true
 | _ => .fail "number"
theorem VF' : ∀ args, RO (gS2 args) := fun args => by
 unfold gS2; split
 ·unfold gNm
  split <;> exact RO.ret _
 ·exact RO.fail _
theorem S7' : ∀ args, RO (gI2 args) := fun args => by
 unfold gI2
 split <;> first | exact RO.ret _ | exact RO.fail _
def cG2 : E7' := [(fCx, cK2 gS2 [sv nm1, sv nmD] [sv nm2, sv nmD] (.v (.tuple #[.string nmO, .bool true])) (.v (.tuple #[.string nmT, .bool true]))), (fAt, cK2 gS2 [sv nmO] [sv nmT] (.v (.tuple #[.int .i64 1, .nilIface])) (.v (.tuple #[.int .i64 2, .nilIface]))), (fIt, cK2 gI2 [iv 1] [iv 2] (sv nmO) (sv nmT))]
theorem CT' (F : HP) : ∀ x ∈ cG2, C1OK Θ F x.1 x.2 :=
 A7' (N2' VF' (cx_tri _) (d0' _) (fun _ => ⟨Ye, Ye, Ye⟩) (fun _ => ⟨Ye, Ye, Ye⟩) (fun _ => trivial) (fun _ => trivial) F)
  (A7' (N2' VF' (at_tri _) (dL' _) (fun _ => ⟨Ye, Ye⟩) (fun _ => ⟨Ye, Ye⟩) (fun _ => trivial) (fun _ => trivial) F)
   (BA' (N2' S7' (GB' _) (HV' _) (fun _ => ⟨Ye, Ye⟩) (fun _ => ⟨Ye, Ye⟩) (fun _ => trivial) (fun _ => trivial) F)))
noncomputable section
def mp2 (st ck : Nat) : AO := .map [(sv nm2, .ptr 1002 0, st)] ck
def lf2 (x : AV) : AO := .map [(sv nm2, x, 0)] 1
def outT (n : Nat) (R : Bs) : LH := [(1030, .cells [sv nm2, sB 1031 n] tAf), (1031, rB R)]
def uTO (PV : AV) (O : AO) (us : Int) (p q : Nat) (da sa : Bs) : LH := [(0, dkC PV us), (1001, mp2 1 2), (1002, fiC p q), (1003, rB da), (1004, rB sa), (1005, O)]
def oTg0 (ok : Option Addr) (nk ck : Nat) (tr : Int) : LH := [(1010, JE' ok nk ck tr), (1011, .map [] 0), (1014, .miter (some 1001) 2 [] 2)]
def oTg1 (ok : Option Addr) (nk ck : Nat) (tr : Int) (q : Nat) (sa : Bs) : LH := [(1010, JE' ok nk ck tr), (1011, lf2 (sB 1012 q)), (1012, rB sa), (1014, .miter (some 1001) 2 [1] 2)]
theorem Y7' (us tr : Int) (pp qq nk ck : Nat) (ok : Option Addr) (da sa : Bs) (PV : AV) (O : AO) (F : HP) : AS' [(fCl, cClB qq sa)] (AC' [ht' fCr 3 1]) [] default fCr (A4' fCr 3) (tms 0 120 aRg) (uTO PV O us pp qq da sa ++ oTg0 ok nk ck tr) kRg [0, 3, 4, 5, 19] F = VT.leaf (AX.normal,[pt' 0 0,pt' 1010 0,e',AV.map 1011,pt' 1014 0],120) [some (ce' [AV.map 1001,PV,i' 1099511627776,z' us] 142),some (AO.map [(s' nm2,pt' 1002 0,1)] 2),some (ce' [AV.slice 1003 0 pp 1 (Cp.lo pp),AV.slice 1004 0 qq 1 (Cp.lo qq)] 148),some (ce' (rowV encB da) 10),some (ce' (AV.rens (sgN (fun k => match k with | 0 => 1004 | k => k) [1000] 1100) (rowV encB sa)) 10),some O,some (ce' [AV.v (Value.slice ok nk ck),z' tr] 94),some (AO.map [(s' nm2,AV.slice 1100 0 qq 1 (Cp.lo qq),0)] 1),none,some (AO.miter (some 1001) 2 [1] 2),some (ce' (AV.rens (sgN (fun k => match k with | 0 => 1004 | k => k) [1000] 1100) (rowV encB sa)) 10),none,none] 1101 (h13' ((k16' 1004 qq sa).a (((p' (findKey Tryz.prog (envW [(30,cClB qq sa)] (AC' [(19,3,1,hv j')]) [] default F) 9 (s' nm2) [] 0 = AP.ret none)).a (f' (CN' (s' nm2) []))).a k1'))) := χ
theorem Y6' (us tr : Int) (pp qq nk ck : Nat) (ok : Option Addr) (da sa : Bs) (PV : AV) (O : AO) (F : HP) : AS' [] (AC' [hf' fCr 3 1]) [] default fCr (A4' fCr 3) (tms 0 120 aRg) (uTO PV O us pp qq da sa ++ oTg1 ok nk ck tr qq sa) kRg [0, 3, 4, 5, 19] F = VT.leaf (AX.exit 0,[pt' 0 0,pt' 1010 0,e',AV.map 1011,pt' 1014 0],120) [some (ce' [AV.map 1001,PV,i' 1099511627776,z' us] 142),some (AO.map [(s' nm2,pt' 1002 0,1)] 2),some (ce' [AV.slice 1003 0 pp 1 (Cp.lo pp),AV.slice 1004 0 qq 1 (Cp.lo qq)] 148),some (ce' (rowV encB da) 10),some (ce' (rowV encB sa) 10),some O,some (ce' [AV.v (Value.slice ok nk ck),z' tr] 94),some (AO.map [(s' nm2,AV.slice 1012 0 qq 1 (Cp.lo qq),0)] 1),some (ce' (rowV encB sa) 10),some (AO.miter (some 1001) 2 [1] 2),none,none,none] 1100 (k7'.a k1') := χ
def lTg (us tr : Int) (pp qq nk ck : Nat) (ok : Option Addr) (da sa : Bs) (PV : AV) (O : AO) : List AV -> AP (AX × List AV) := mkL (fun tmps => match tmps.getD 3 .any, tmps.getD 5 .any, tmps.getD 19 .any with
 | .ptr i 0, .map j, .ptr k 0 => .ret (i, j, k)
 | _, _, _ => .fail "files") (fun _ => True) (fun p k => match Nat.beq k 1010 with | true => p.1 | false => match Nat.beq k 1011 with | true => p.2.1 | false => match Nat.beq k 1014 with | true => p.2.2 | false => k) (fun _ => tms 0 120 aRg) (fun _ => uTO PV O us pp qq da sa ++ oTg0 ok nk ck tr) (fun _ => .leaf (.exit 0) (tms 0 120 [(0, .ptr 0 0), (3, .ptr 1010 0), (4, nilS), (5, .map 1011)]) (uTO PV O us pp qq da sa ++ [(1010, JE' ok nk ck tr), (1011, lf2 (sB 1012 qq)), (1012, rB sa)]))
def oTt0 (n : Nat) (R : Bs) : LH := [(1011, lf2 (sB 1012 n)), (1012, rB R), (1015, .cells [sv nm2] tSt)]
def oTt1 (n : Nat) (R : Bs) : LH := [(1011, lf2 (sB 1012 n)), (1012, rB R), (1015, .cells [sv nm2] tSt), (1016, .cells [sv nm2, sB 1012 n] tAf)]
theorem Y5' (n : Nat) (R : Bs) (F : HP) : AS' [] (AC' [ht' fCr 20 0, (fCr, 23, 0, hv (iv 1))]) [] default fCr (A4' fCr 20) (tms 0 120 aOt0) (oTt0 n R) kOt [4, 5, 104, 105, 106] F = VT.leaf (AX.normal,[AV.slice 1101 0 1 2 (Cp.lo 1),AV.map 1011,AV.slice 1015 0 1 1 (Cp.lo 1),i' 1,i' 1],120) [some (AO.map [(s' nm2,AV.slice 1012 0 n 1 (Cp.lo n),0)] 1),some (ce' (rowV encB R) 10),some (ce' [s' nm2] 18),none,some (ce' [s' nm2,AV.slice 1012 0 n 1 (Cp.lo n)] 108),some (ce' [s' nm2,AV.slice 1012 0 n 1 (Cp.lo n)] 108),none,none] 1102 (k5'.a (k10'.a ((ee' (s' nm2)).a ((f' (findKey Tryz.prog (envW [] (AC' [(19,20,0,hv j'),(19,23,0,hv (i' 1))]) [] default F) 9 (s' nm2) [(s' nm2,AV.slice 1012 0 n 1 (Cp.lo n),0)] 0 = AP.ret (some (0,AV.slice 1012 0 n 1 (Cp.lo n))))).a (k11'.a (k15'.a k1')))))) := χ
theorem Y4' (n : Nat) (R : Bs) (F : HP) : AS' [] (AC' [hf' fCr 20 0]) [] default fCr (A4' fCr 20) (tms 0 120 aOt1) (oTt1 n R) kOt [4, 5, 104, 105, 106] F = VT.leaf (AX.exit 6,[AV.slice 1016 0 1 2 (Cp.lo 1),AV.map 1011,AV.slice 1015 0 1 1 (Cp.lo 1),i' 1,i' 1],120) [some (AO.map [(s' nm2,AV.slice 1012 0 n 1 (Cp.lo n),0)] 1),some (ce' (rowV encB R) 10),some (ce' [s' nm2] 18),some (ce' [s' nm2,AV.slice 1012 0 n 1 (Cp.lo n)] 108),none,none,none,none] 1100 (k7'.a k1') := χ
def lTt (n : Nat) (R : Bs) : List AV -> AP (AX × List AV) := mkL (fun tmps => match tmps.getD 5 .any, tmps.getD 104 .any with
 | .map j, .slice i _ _ _ _ => .read j fun o => match o with
  | .map [(_, .slice k _ _ _ _, _)] _ => .ret [(1011, j), (1012, k), (1015, i)]
  | _ => .fail "names"
 | _, _ => .fail "names") (fun _ => True) nmF (fun _ => tms 0 120 aOt0) (fun _ => oTt0 n R) (fun _ => .leaf (.exit 6) (tms 0 120 [(4, .slice 1016 0 1 2 (.lo 1))]) [(1012, rB R), (1016, .cells [sv nm2, sB 1012 n] tAf)])
abbrev y2' : Δ := ByteArray.mk (Array.mk [108, 111, 103, 46, 50])
abbrev k60' : Cnd := (p' (OW (ce' [s' y2'] 18) (ce' [s' nm2] 18)))
theorem b0' (us tr : Int) (pp qq nk ck : Nat) (ok : Option Addr) (da sa : Bs) (O : AO) (F : HP) : wRun [(fSo, cSo)] AV' [(fCr, 3, A4' fCr 3, lTg us tr pp qq nk ck ok da sa nilS O), (fCr, 20, A4' fCr 20, lTt qq sa)] default fCr [.ptr 0 0, EN' ok nk ck tr] (uTO nilS O us pp qq da sa) kC6 F = VT.ite false (VT.bad "indexAddr") (VT.leaf (AV.slice 1114 0 1 2 (Cp.lo 1)) [some (ce' [AV.map 1103,e',i' 1099511627776,z' us] 142),none,none,none,none,none,none,none,none,some (AO.map [(s' nm2,pt' 1104 0,1)] 2),some (ce' [AV.slice 1105 0 pp 1 (Cp.lo pp),AV.slice 1106 0 qq 1 (Cp.lo qq)] 148),some (ce' (AV.rens (sgN (fun k => match k.beq 1010 with | true => (1100,1100 + 1,1100 + 1 + 1).fst | false => match k.beq 1011 with | true => (1100,1100 + 1,1100 + 1 + 1).snd.fst | false => match k.beq 1014 with | true => (1100,1100 + 1,1100 + 1 + 1).snd.snd | false => k) [1001,1002,1003,1004,1005,1010,1011,1012] 1103) (rowV encB da)) 10),some (ce' (AV.rens (sgN (fun k => match k.beq 1010 with | true => (1100,1100 + 1,1100 + 1 + 1).fst | false => match k.beq 1011 with | true => (1100,1100 + 1,1100 + 1 + 1).snd.fst | false => match k.beq 1014 with | true => (1100,1100 + 1,1100 + 1 + 1).snd.snd | false => k) [1001,1002,1003,1004,1005,1010,1011,1012] 1103) (rowV encB sa)) 10),some (AO.ren (sgN (fun k => match k.beq 1010 with | true => (1100,1100 + 1,1100 + 1 + 1).fst | false => match k.beq 1011 with | true => (1100,1100 + 1,1100 + 1 + 1).snd.fst | false => match k.beq 1014 with | true => (1100,1100 + 1,1100 + 1 + 1).snd.snd | false => k) [1001,1002,1003,1004,1005,1010,1011,1012] 1103) O),some (ce' [AV.v (Value.slice ok nk ck),z' tr] 94),none,none,some (ce' [AV.map 1103] 136),none,some (ce' (AV.rens (sgN (nmF [(1011,1109),(1012,1110),(1015,1112)]) [1012,1016] 1113) (rowV encB sa)) 10),some (ce' [s' nm2,AV.slice 1113 0 qq 1 (Cp.lo qq)] 108),none,none,none,none,none,none,none,none,none,none,none,none,none,none,none,none] 1115 (k10'.a ((p' ((fCr,3,A4' fCr 3,lTg us tr pp qq nk ck ok da sa nilS O).snd.snd.fst = (fCr,3,A4' fCr 3,lTg us tr pp qq nk ck ok da sa nilS O).snd.snd.fst)).a (k4'.a ((k54' ok nk ck tr 1100 1101 1001 1102).a ((k53' 1001 us).a ((ow' (AO.map [(s' nm2,pt' 1002 0,1)] 2)).a ((k52' 1003 pp 1004 qq).a ((k51' da 1010 1100 1011 1014).a ((k51' sa 1010 1100 1011 1014).a ((k50' O 1010 1100 1011 1014).a ((k49' ok nk ck tr).a (k48'.a ((ow' (AO.miter (some 1001) 2 [] 2)).a (k10'.a (k47'.a ((p' ((fCr,20,A4' fCr 20,lTt qq sa).snd.snd.fst = (fCr,20,A4' fCr 20,lTt qq sa).snd.snd.fst)).a (k4'.a ((k46' 1108 1109 1112).a ((ow' (AO.map [(s' nm2,AV.slice 1110 0 qq 1 (Cp.lo qq),0)] 1)).a ((k45' 1010 1100 1011 1014 1001 1002 1003 1004 1005 1012 1103 sa 1109 1110 1015 1112).a (k60'.a k1')))))))))))))))))))))) := χ
end
def uT5 (us : Int) (p q : Nat) (da sa : Bs) : LH := [(0, dkC nilS us), (1001, mp2 1 2), (1002, fiC p q), (1003, rB da), (1004, rB sa)]
theorem d7' (ok : Option Addr) (us tr : Int) (pp nk ck : Nat) (da sa : Bs) (hb : sa.length <= big) (hp : 0 < sa.length) :
  Tri Θ default fCr [.ptr 0 0, EN' ok nk ck tr] (uDO nilS dumZ us pp sa.length da sa) (.slice 1030 0 1 2 (.lo 1)) (uD5 us pp sa.length da sa ++ outH sa.length sa) := by
 have q1 := fun F => lRg_ok (W := default) us tr pp nk ck ok da sa nilS dumZ hb hp (fun l => rfl) (fun l => rfl) (fun K h => trivial) (fun K => trivial) F
 have q3 := fun F hF => lOt_ok (W := default) sa.length sa F hF
 refine AJ' (con := [(fSo, cSo)]) (hints := AV') (lc := [(fCr, 3, A4' fCr 3, lRg us tr pp sa.length nk ck ok da sa nilS dumZ), (fCr, 20, A4' fCr 20, lOt sa.length sa)]) kC6 χ (fun F _ => BA' (HH' F)) (fun F hF x hx => by
  rcases List.mem_cons.1 hx with rfl | hx
  ·exact q1 F
  ·obtain rfl := List.mem_singleton.1 hx
   exact q3 F hF) fun F => ?_
 refine Yj (b1' us tr pp sa.length nk ck ok da sa dumZ F) ⟨fun h => (by cases h), fun _ => ⟨?_, (AR' (vs' := [.slice 1030 0 1 2 (.lo 1)]) (H' := [(0, dkC nilS us), (1001, mpO 0 1), (1002, fiC pp sa.length), (1003, rB da), (1004, rB sa), (1030, .cells [sv nm1, sB 1031 sa.length] tAf), (1031, rB sa)]) [(1001, 1103), (1002, 1104), (1003, 1105), (1004, 1106), (1030, 1114), (1031, 1113)] χ χ (Yb) ⟨⟨_, rfl, Yc⟩, ⟨_, rfl, Yc⟩, ⟨_, rfl, Yc⟩, ⟨_, rfl, A5' (A1' _ _) rfl⟩, ⟨_, rfl, A5' (A1' _ _) rfl⟩, ⟨_, rfl, Yc⟩, ⟨_, rfl, A5' (A1' _ _) rfl⟩, Ye⟩).fits χ⟩⟩
 clear q1 q3
 simp only [ch', true_and, and_true]; and_intros; all_goals exact Kw26'
theorem WH' (us tr : Int) (pp nk ck : Nat) (ok : Option Addr) (da sa : Bs) (PV : AV) (O : AO) (hb : sa.length <= big) (hp : 0 < sa.length) (hPV : ∀ l : List (Nat × Nat), PV.ren (sg ([(1001, 1001), (1002, 1002), (1003, 1003), (1004, 1004), (1005, 1005)] ++ l)) = PV) (hO : ∀ l : List (Nat × Nat), O.ren (sg ([(1001, 1001), (1002, 1002), (1003, 1003), (1004, 1004), (1005, 1005)] ++ l)) = O) :
  LTri Θ default (A4' fCr 3) (tms 0 120 aRg) (uTO PV O us pp sa.length da sa ++ oTg0 ok nk ck tr) (.exit 0) (tms 0 120 [(0, .ptr 0 0), (3, .ptr 1010 0), (4, nilS), (5, .map 1011)]) (uTO PV O us pp sa.length da sa ++ [(1010, JE' ok nk ck tr), (1011, lf2 (sB 1012 sa.length)), (1012, rB sa)]) := by
 refine AT' (W := default) (g := fCr) (b := A4' fCr 3) (σ := Bool) 120 (fun _ => aRg) (fun s => match s with | false => uTO PV O us pp sa.length da sa ++ oTg0 ok nk ck tr | true => uTO PV O us pp sa.length da sa ++ oTg1 ok nk ck tr sa.length sa) (.exit 0) [(0, .ptr 0 0), (3, .ptr 1010 0), (4, nilS), (5, .map 1011)] (uTO PV O us pp sa.length da sa ++ [(1010, JE' ok nk ck tr), (1011, lf2 (sB 1012 sa.length)), (1012, rB sa)]) (fun s => match s with | false => 1 | true => 0) kRg [0, 3, 4, 5, 19] (by intro h; cases h) (fun s => by cases s <;> rfl) rfl ?_ false; intro s
 cases s with
 | false =>
  refine ⟨[(fCl, cClB sa.length sa)], AC' [ht' fCr 3 1], [], fun F hF => BA' (BP' hb hp F), fun _ _ => noL, fun F => ?_⟩
  refine Yj (Y7' us tr pp sa.length nk ck ok da sa PV O F) ⟨⟨?_, rfl, .inl ⟨rfl, true, Nat.lt_succ_self 0, [(1001, 1001), (1002, 1002), (1003, 1003), (1004, 1004), (1005, 1005), (1010, 1010), (1011, 1011), (1012, 1100), (1014, 1014)], by kernel_rfl, by kernel_rfl, ⟨Ya, Ya, Ya, Ya, Ya, Ye⟩, ⟨_, rfl, OW.of_eq ?_⟩, ⟨_, rfl, Yc⟩, ⟨_, rfl, Yc⟩, ⟨_, rfl, A5' rfl rfl⟩, ⟨_, rfl, A5' (A1' _ _) rfl⟩, ⟨_, rfl, OW.of_eq (hO _).symm⟩, ⟨_, rfl, Yc⟩, ⟨_, rfl, Yc⟩, ⟨_, rfl, A5' (A1' _ _) rfl⟩, ⟨_, rfl, Yc⟩, Ye⟩⟩⟩
  ·simp only [ch', true_and, and_true]; and_intros; all_goals exact Kw34'
  ·simp only [dkC, AO.ren, AV.rens]; have := hPV [(1010, 1010), (1011, 1011), (1012, 1100), (1014, 1014)]; simp only [List.cons_append, List.nil_append] at this; rw [this]; rfl
 | true =>
  refine ⟨[], AC' [hf' fCr 3 1], [], fun _ _ => noC, fun _ _ => noL, fun F => ?_⟩
  refine Yj (Y6' us tr pp sa.length nk ck ok da sa PV O F) ⟨⟨?_, rfl, .inr ⟨rfl, [(1001, 1001), (1002, 1002), (1003, 1003), (1004, 1004), (1005, 1005), (1010, 1010), (1011, 1011), (1012, 1012)], by kernel_rfl, by kernel_rfl, ⟨Ya, Ya, Ya, Ya, Ye⟩, ⟨_, rfl, OW.of_eq ?_⟩, ⟨_, rfl, Yc⟩, ⟨_, rfl, Yc⟩, ⟨_, rfl, A5' rfl rfl⟩, ⟨_, rfl, A5' rfl rfl⟩, ⟨_, rfl, OW.of_eq (hO _).symm⟩, ⟨_, rfl, Yc⟩, ⟨_, rfl, Yc⟩, ⟨_, rfl, A5' rfl rfl⟩, Ye⟩⟩⟩
  ·simp only [ch', and_true]; exact A3' rfl
  ·simp only [dkC, AO.ren, AV.rens]; have := hPV [(1010, 1010), (1011, 1011), (1012, 1012)]; simp only [List.cons_append, List.nil_append] at this; rw [this]; rfl
theorem WF' (n : Nat) (R : Bs) : LTri Θ default (A4' fCr 20) (tms 0 120 aOt0) (oTt0 n R) (.exit 6) (tms 0 120 [(4, .slice 1016 0 1 2 (.lo 1))]) [(1012, rB R), (1016, .cells [sv nm2, sB 1012 n] tAf)] := by
 refine AT' (W := default) (g := fCr) (b := A4' fCr 20) (σ := Bool) 120 (fun s => match s with | false => aOt0 | true => aOt1) (fun s => match s with | false => oTt0 n R | true => oTt1 n R) (.exit 6) [(4, .slice 1016 0 1 2 (.lo 1))] [(1012, rB R), (1016, .cells [sv nm2, sB 1012 n] tAf)] (fun s => match s with | false => 1 | true => 0) kOt [4, 5, 104, 105, 106] (by intro h; cases h) (fun s => by cases s <;> rfl) rfl ?_ false; intro s
 cases s with
 | false =>
  refine ⟨[], AC' [ht' fCr 20 0, (fCr, 23, 0, hv (iv 1))], [], fun F hF => noC, fun _ _ => noL, fun F => ?_⟩
  refine Yj (Y5' n R F) ⟨⟨?_, rfl, .inl ⟨rfl, true, Nat.lt_succ_self 0, [(1011, 1011), (1012, 1012), (1015, 1015), (1016, 1101)], by kernel_rfl, by kernel_rfl, ⟨Ya, Ya, Ya, Ya, Ya, Ye⟩, ⟨_, rfl, Yc⟩, ⟨_, rfl, A5' rfl rfl⟩, ⟨_, rfl, Yc⟩, ⟨_, rfl, Yc⟩, Ye⟩⟩⟩
  simp only [ch', true_and, and_true]; and_intros; all_goals exact Kw37'
 | true =>
  refine ⟨[], AC' [hf' fCr 20 0], [], fun _ _ => noC, fun _ _ => noL, fun F => ?_⟩
  refine Yj (Y4' n R F) ⟨⟨?_, rfl, .inr ⟨rfl, [(1012, 1012), (1016, 1016)], by kernel_rfl, by kernel_rfl, ⟨Ya, Ye⟩, ⟨_, rfl, A5' rfl rfl⟩, ⟨_, rfl, Yc⟩, Ye⟩⟩⟩
  simp only [ch', and_true]; exact A3' rfl
theorem lTt_ok {W : World} (n : Nat) (R : Bs) (F : HP) (hF : AF' W F) : L1OK Θ F (A4' fCr 20) (lTt n R) :=
 B7' (W := default) B8' (fun args => by
  split
  ·refine RO.read _ _ fun o => ?_
   split <;> first | exact RO.ret _ | exact RO.fail _
  ·exact RO.fail _) (fun _ _ => WF' n R) fun _ => by
  simp only [RT.pick]; exact AY' rfl rfl (A0' Ye (A0' rfl (A0' rfl (A0' Ye (A0' Ye A2'))))) (A0' ⟨Ye, rfl, Ye⟩ (A0' (AB' _ _) (A0' ⟨Ye, Ye⟩ A2'))) (A0' rfl A2') (A0' (AB' _ _) (A0' ⟨Ye, rfl, Ye⟩ A2'))
theorem lTg_ok {W : World} (us tr : Int) (pp nk ck : Nat) (ok : Option Addr) (da sa : Bs) (PV : AV) (O : AO) (hb : sa.length <= big) (hp : 0 < sa.length) (hPV : ∀ l : List (Nat × Nat), PV.ren (sg ([(1001, 1001), (1002, 1002), (1003, 1003), (1004, 1004), (1005, 1005)] ++ l)) = PV) (hO : ∀ l : List (Nat × Nat), O.ren (sg ([(1001, 1001), (1002, 1002), (1003, 1003), (1004, 1004), (1005, 1005)] ++ l)) = O)
  (cPV : ∀ K : Nat -> Bool, K 1005 = true -> AV.cl K PV) (cO : ∀ K, O.cl K) (F : HP) : L1OK Θ F (A4' fCr 3) (lTg us tr pp sa.length nk ck ok da sa PV O) :=
 B7' (W := default) B8' (fun args => by split <;> first | exact RO.ret _ | exact RO.fail _) (fun _ _ => WH' us tr pp nk ck ok da sa PV O hb hp hPV hO) fun _ => by
  simp only [RT.pick]
  exact AY' rfl rfl (A0' rfl (A0' rfl (A0' Ye (A0' rfl (A0' rfl A2')))))
   (A0' ⟨rfl, cPV _ rfl, Ye, Ye, Ye⟩ (A0' ⟨Ye, rfl, Ye⟩ (A0' ⟨rfl, rfl, Ye⟩ (A0' (AB' _ _) (A0' (AB' _ _) (A0' (cO _) (A0' ⟨Ye, Ye, Ye⟩ (A0' Ye (A0' rfl A2')))))))))
   (A0' rfl (A0' rfl (A0' Ye (A0' rfl A2'))))
   (A0' ⟨rfl, cPV _ rfl, Ye, Ye, Ye⟩ (A0' ⟨Ye, rfl, Ye⟩ (A0' ⟨rfl, rfl, Ye⟩ (A0' (AB' _ _) (A0' (AB' _ _) (A0' (cO _) (A0' ⟨Ye, Ye, Ye⟩ (A0' ⟨Ye, rfl, Ye⟩ (A0' (AB' _ _) A2')))))))))
theorem d1' (ok : Option Addr) (us tr : Int) (pp nk ck : Nat) (da sa : Bs) (hb : sa.length <= big) (hp : 0 < sa.length) :
  Tri Θ default fCr [.ptr 0 0, EN' ok nk ck tr] (uTO nilS dumZ us pp sa.length da sa) (.slice 1030 0 1 2 (.lo 1)) (uT5 us pp sa.length da sa ++ outT sa.length sa) := by
 have q1 := fun F => lTg_ok (W := default) us tr pp nk ck ok da sa nilS dumZ hb hp (fun l => rfl) (fun l => rfl) (fun K h => trivial) (fun K => trivial) F
 have q3 := fun F hF => lTt_ok (W := default) sa.length sa F hF
 refine AJ' (con := [(fSo, cSo)]) (hints := AV') (lc := [(fCr, 3, A4' fCr 3, lTg us tr pp sa.length nk ck ok da sa nilS dumZ), (fCr, 20, A4' fCr 20, lTt sa.length sa)]) kC6 χ (fun F _ => BA' (HH' F)) (fun F hF x hx => by
  rcases List.mem_cons.1 hx with rfl | hx
  ·exact q1 F
  ·obtain rfl := List.mem_singleton.1 hx
   exact q3 F hF) fun F => ?_
 refine Yj (b0' us tr pp sa.length nk ck ok da sa dumZ F) ⟨fun h => (by cases h), fun _ => ⟨?_, (AR' (vs' := [.slice 1030 0 1 2 (.lo 1)]) (H' := [(0, dkC nilS us), (1001, mp2 1 2), (1002, fiC pp sa.length), (1003, rB da), (1004, rB sa), (1030, .cells [sv nm2, sB 1031 sa.length] tAf), (1031, rB sa)]) [(1001, 1103), (1002, 1104), (1003, 1105), (1004, 1106), (1030, 1114), (1031, 1113)] χ χ (Yb) ⟨⟨_, rfl, Yc⟩, ⟨_, rfl, Yc⟩, ⟨_, rfl, Yc⟩, ⟨_, rfl, A5' (A1' _ _) rfl⟩, ⟨_, rfl, A5' (A1' _ _) rfl⟩, ⟨_, rfl, Yc⟩, ⟨_, rfl, A5' (A1' _ _) rfl⟩, Ye⟩).fits χ⟩⟩
 clear q1 q3
 simp only [ch', true_and, and_true]; and_intros; all_goals exact Kw26'
noncomputable section
def aEo1 : List (Nat × AV) := [(6, .ptr 1040 0), (7, sv nm2), (14, .slice 1030 0 1 2 (.lo 1)), (15, iv 1), (16, iv 1)]
def oEo0 (n : Nat) (R : Bs) : LH := outT n R ++ [(1040, .cells [.map 1041, nilS, iv 1099511627776, iv 0] tDk), (1041, .map [] 0)]
def oEo1 (n : Nat) (R : Bs) : LH := outT n R ++ [(1040, .cells [.map 1041, nilS, iv 1099511627776, iv (o' n)] tDk), (1041, .map [(sv nm2, .ptr 1042 0, 0)] 1), (1042, .cells [sB 1043 n, sB 1044 n] tFi), (1043, rB R), (1044, rB R)]
abbrev k61' (q0 : Nat) : Cnd := (f' (Wk (z' (IntKind.i64.wrap (o' 0 + ↑q0))) (i' q0)))
abbrev k62' : Cnd := (ee' (i' 0))
abbrev h63' (q0 q1 : Nat) (q2 : Bs) (q3 q4 : Nat) (z : Cnd) : Cnd := ((fe' true).a (((p' True).a ((vw' [AV.slice q0 0 q1 1 (Cp.lo q1)]).a (f' (OW (ce' (rowV encB q2) 10) (ce' (AV.rens (fun k => match k with | 0 => q0 | k => k) (rowV encB q2)) 10))))).a ((fe' true).a (((p' True).a ((vw' [AV.slice q0 0 q1 1 (Cp.lo q1)]).a (f' (OW (ce' (AV.rens (sgN (fun k => match k with | 0 => q0 | k => k) [q3] q4) (rowV encB q2)) 10) (ce' (AV.rens (fun k => match k with | 0 => q0 | k => k) (rowV encB q2)) 10))))).a z))))
abbrev h64' (z : Cnd) : Cnd := ((fe' true).a ((ee' (s' nm2)).a z))
abbrev h65' (z : Cnd) : Cnd := ((f' (Wk (b' false) g')).a ((f' (Wk g' g')).a ((ee' (s' nm2)).a z)))
abbrev k66' : Cnd := ((p' (nm2 = nm1 \/ nm2 = nmL \/ nm2 = nm2)).a (f' (VW [s' nm2] [s' nm2])))
abbrev k67' (q0 q1 : Nat) : Cnd := (ee' [s' nm2,AV.slice q0 0 q1 1 (Cp.lo q1)])
theorem aX' (n : Nat) (R : Bs) (F : HP) : AS' [(fGn, cGm), (fCl, cClB n R)] (AC' [ht' fDo 4 0, hf' fDo 6 3, hf' fDo 6 4, hf' fDo 8 3, hf' fDo 8 4, (fDo, 12, 7, hv (iv (o' n))), (fDo, 13, 0, hv (iv 1))]) [] default fDo (A4' fDo 4) (tms 0 58 aDo0) (oEo0 n R) kDo [6, 7, 14, 15, 16] F = VT.leaf (AX.normal,[pt' 1040 0,s' nm2,AV.slice 1030 0 1 2 (Cp.lo 1),i' 1,i' 1],58) [some (ce' [s' nm2,AV.slice 1031 0 n 1 (Cp.lo n)] 108),some (ce' (AV.rens (sgN (fun k => match k with | 0 => 1031 | k => k) [1000] 1102) (rowV encB R)) 10),some (ce' [AV.map 1041,e',i' 1099511627776,i' n] 142),some (AO.map [(s' nm2,pt' 1103 0,0)] 1),none,none,none,some (ce' [s' nm2,AV.slice 1031 0 n 1 (Cp.lo n)] 108),some (ce' (AV.rens (sgN (fun k => match k with | 0 => 1031 | k => k) [1000] 1101) (rowV encB R)) 10),some (ce' (AV.rens (sgN (fun k => match k with | 0 => 1031 | k => k) [1000] 1102) (rowV encB R)) 10),some (ce' [AV.slice 1101 0 n 1 (Cp.lo n),AV.slice 1102 0 n 1 (Cp.lo n)] 148),none,none,none] 1104 (h13' ((k67' 1031 n).a (h64' (k66'.a (h65' (h65' (h64' (h63' 1031 n R 1000 1101 (((p' (findKey Tryz.prog (envW [(29,cGm),(30,cClB n R)] (AC' [(9,4,0,hv j'),(9,6,3,hv g'),(9,6,4,hv g'),(9,8,3,hv g'),(9,8,4,hv g'),(9,12,7,hv (i' n)),(9,13,0,hv (i' 1))]) [] default F) 9 (s' nm2) [] 0 = AP.ret none)).a (f' (CN' (s' nm2) []))).a (k62'.a (k10'.a ((k61' n).a (k10'.a (k15'.a k1')))))))))))))) := χ
theorem aW' (n : Nat) (R : Bs) (F : HP) : AS' [] (AC' [hf' fDo 4 0]) [] default fDo (A4' fDo 4) (tms 0 58 aEo1) (oEo1 n R) kDo [6, 7, 14, 15, 16] F = VT.leaf (AX.exit 0,[pt' 1040 0,s' nm2,AV.slice 1030 0 1 2 (Cp.lo 1),i' 1,i' 1],58) [some (ce' [s' nm2,AV.slice 1031 0 n 1 (Cp.lo n)] 108),some (ce' (rowV encB R) 10),some (ce' [AV.map 1041,e',i' 1099511627776,i' n] 142),some (AO.map [(s' nm2,pt' 1042 0,0)] 1),some (ce' [AV.slice 1043 0 n 1 (Cp.lo n),AV.slice 1044 0 n 1 (Cp.lo n)] 148),some (ce' (rowV encB R) 10),some (ce' (rowV encB R) 10),none,none,none,none,none,none,none] 1100 (k7'.a k1') := χ
def lEo (n : Nat) (R : Bs) : List AV -> AP (AX × List AV) := mkL (fun tmps => match tmps.getD 6 .any with
 | .ptr i 0 => .read i fun o => match o with
  | .cells [.map m, _, _, _] _ => .ret [(1040, i), (1041, m)]
  | _ => .fail "disk"
 | _ => .fail "disk") (fun _ => True) nmF (fun _ => tms 0 58 aDo0) (fun _ => oEo0 n R) (fun _ => .leaf (.exit 0) (tms 0 58 [(6, .ptr 1040 0)]) (oEo1 n R))
abbrev y3' : Δ := ByteArray.mk (Array.mk [])
abbrev k68' (q0 : Nat) : Cnd := (ow' (ce' [AV.map q0,e',i' 1099511627776,i' 0] 142))
theorem aV' (n : Nat) (R : Bs) (F : HP) : wRun [] AV' [(fDo, 4, A4' fDo 4, lEo n R)] default fDo [.slice 1030 0 1 2 (.lo 1), iv 1099511627776] (outT n R) [1030, 1031, 1100, 1101, 1102, 1103, 1104, 1105, 1106, 1107, 1108, 1109, 1110] F = VT.leaf (AV.tuple [pt' 1104 0,i' 0]) [none,none,none,none,some (ce' [s' nm2,AV.slice 1103 0 n 1 (Cp.lo n)] 108),some (ce' (AV.rens (sgN (nmF [(1040,1101),(1041,1100)]) [1030,1031,1040,1041,1042,1043,1044] 1102) (rowV encB R)) 10),some (ce' [AV.map 1105,e',i' 1099511627776,i' n] 142),some (AO.map [(s' nm2,pt' 1106 0,0)] 1),some (ce' [AV.slice 1107 0 n 1 (Cp.lo n),AV.slice 1108 0 n 1 (Cp.lo n)] 148),some (ce' (AV.rens (sgN (nmF [(1040,1101),(1041,1100)]) [1030,1031,1040,1041,1042,1043,1044] 1102) (rowV encB R)) 10),some (ce' (AV.rens (sgN (nmF [(1040,1101),(1041,1100)]) [1030,1031,1040,1041,1042,1043,1044] 1102) (rowV encB R)) 10),none,none] 1109 ((p' ((fDo,4,A4' fDo 4,lEo n R).snd.snd.fst = (fDo,4,A4' fDo 4,lEo n R).snd.snd.fst)).a (k4'.a ((p' (VW (AV.slice 1030 0 1 2 (Cp.lo 1)::i' 1099511627776::u'::u'::AV.v (Value.pointer none)::i' 0::pt' 1101 0::s' y3'::u'::u'::AV.map 1100::i' 1099511627776::AV.agg [AV.map 1100,e',i' 1099511627776,i' 0]::pt' 1101 0::AV.slice 1030 0 1 2 (Cp.lo 1)::i' 1::i' 0::ru16 (ru16 (ru8 (u'::[])))) (ra4 (a'::a'::pt' 1101 0::s' y3'::ra4 (a'::a'::AV.slice 1030 0 1 2 (Cp.lo 1)::i' 1::i' 0::ra16 (ra16 (ra8 (a'::[])))))))).a ((ow' (ce' [s' nm2,AV.slice 1031 0 n 1 (Cp.lo n)] 108)).a ((p' (OW (ce' (rowV encB R) 10) (ce' (AV.rens (nmF [(1040,1101),(1041,1100)]) (rowV encB R)) 10))).a ((k68' 1100).a (k48'.a k1'))))))) := χ
end
theorem bW' (n : Nat) (R : Bs) (hn : n = R.length) (hb : n <= 2199023255552) (hp : 0 < n) : LTri Θ default (A4' fDo 4) (tms 0 58 aDo0) (oEo0 n R) (.exit 0) (tms 0 58 [(6, .ptr 1040 0)]) (oEo1 n R) := by
 refine AT' (W := default) (g := fDo) (b := A4' fDo 4) (σ := Bool) 58 (fun s => match s with | false => aDo0 | true => aEo1) (fun s => match s with | false => oEo0 n R | true => oEo1 n R) (.exit 0) [(6, .ptr 1040 0)] (oEo1 n R) (fun s => match s with | false => 1 | true => 0) kDo [6, 7, 14, 15, 16] (by intro h; cases h) (fun s => by cases s <;> rfl) rfl ?_ false; intro s
 cases s with
 | false =>
  have hcl := fun F => BP' (l := R) (by show _ <= 140737488351232; omega) ω F
  rw [<- hn] at hcl
  have hus : IntKind.i64.wrap (o' 0 + (n : Int)) = o' n := by
   rw [IntWalk.i64_in _ (by simp only [Z0]; omega)]; simp only [Z0]; omega
  refine ⟨[(fGn, cGm), (fCl, cClB n R)], AC' [ht' fDo 4 0, hf' fDo 6 3, hf' fDo 6 4, hf' fDo 8 3, hf' fDo 8 4, (fDo, 12, 7, hv (iv (o' n))), (fDo, 13, 0, hv (iv 1))], [], fun F hF => A7' (EA' F) (BA' (hcl F)), fun _ _ => noL, fun F => ?_⟩
  refine Yj (aX' n R F) ⟨⟨?_, rfl, .inl ⟨rfl, true, Nat.lt_succ_self 0, [(1030, 1030), (1031, 1031), (1040, 1040), (1041, 1041), (1042, 1103), (1043, 1101), (1044, 1102)], by kernel_rfl, by kernel_rfl, ⟨Ya, Ya, Ya, Ya, Ya, Ye⟩, ⟨_, rfl, Yc⟩, ⟨_, rfl, A5' (A1' _ _) rfl⟩, ⟨_, rfl, Yc⟩, ⟨_, rfl, Yc⟩, ⟨_, rfl, Yc⟩, ⟨_, rfl, A5' (A1' _ _) rfl⟩, ⟨_, rfl, A5' (A1' _ _) rfl⟩, Ye⟩⟩⟩
  simp only [ch', true_and, and_true]; and_intros; all_goals first | (with_reducible exact Ye) | (with_reducible exact rfl) | (with_reducible exact Ya) | (with_reducible exact Yb) | (with_reducible exact AL' hus) | exact CM' _ | exact .inr (.inr rfl) | exact .inr (.inr trivial) | exact .inl rfl | exact .inl trivial | exact A3' rfl | exact Ya | exact Kw19'
 | true =>
  refine ⟨[], AC' [hf' fDo 4 0], [], fun _ _ => noC, fun _ _ => noL, fun F => ?_⟩
  refine Yj (aW' n R F) ⟨⟨?_, rfl, .inr ⟨rfl, [(1030, 1030), (1031, 1031), (1040, 1040), (1041, 1041), (1042, 1042), (1043, 1043), (1044, 1044)], by kernel_rfl, by kernel_rfl, ⟨Ya, Ye⟩, ⟨_, rfl, Yc⟩, ⟨_, rfl, A5' rfl rfl⟩, ⟨_, rfl, Yc⟩, ⟨_, rfl, Yc⟩, ⟨_, rfl, Yc⟩, ⟨_, rfl, A5' rfl rfl⟩, ⟨_, rfl, A5' rfl rfl⟩, Ye⟩⟩⟩
  simp only [ch', and_true]; exact A3' rfl
theorem lEo_ok {W : World} (n : Nat) (R : Bs) (hn : n = R.length) (hb : n <= 2199023255552) (hp : 0 < n) (F : HP) : L1OK Θ F (A4' fDo 4) (lEo n R) :=
 B7' (W := default) B8' (fun args => by
  split
  ·refine RO.read _ _ fun o => ?_
   split <;> first | exact RO.ret _ | exact RO.fail _
  ·exact RO.fail _) (fun _ _ => bW' n R hn hb hp) fun _ => by
  simp only [RT.pick]; exact AY' rfl rfl (A0' rfl (A0' Ye (A0' rfl (A0' Ye (A0' Ye A2'))))) (A0' ⟨Ye, rfl, Ye⟩ (A0' (AB' _ _) (A0' ⟨rfl, Ye, Ye, Ye, Ye⟩ (A0' Ye A2')))) (A0' rfl A2') (A0' ⟨Ye, rfl, Ye⟩ (A0' (AB' _ _) (A0' ⟨rfl, Ye, Ye, Ye, Ye⟩ (A0' ⟨Ye, rfl, Ye⟩ (A0' ⟨rfl, rfl, Ye⟩ (A0' (AB' _ _) (A0' (AB' _ _) A2')))))))
def dTL (R : Bs) : LH := [(0, dkC nilS (o' R.length)), (1001, mp2 0 1), (1002, fiC R.length R.length), (1003, rB R), (1004, rB R)]
def dT (R : Bs) : AO := .own (.turns [3]) (exHP (fun _ : Unit => True) (fun _ => dTL R))
theorem eo_f (R : Bs) (hb : R.length <= 2199023255552) (hp : 0 < R.length) : Tri Θ default fDo [.slice 1030 0 1 2 (.lo 1), iv 1099511627776] (outT R.length R) (.tuple [.ptr 1000 0, iv 0]) [(1000, dT R)] := by
 have hL := fun F => lEo_ok (W := default) R.length R rfl hb hp F
 refine AJ' (con := []) (hints := AV') (lc := [(fDo, 4, A4' fDo 4, lEo R.length R)]) [1030, 1031, 1100, 1101, 1102, 1103, 1104, 1105, 1106, 1107, 1108, 1109, 1110] χ (fun _ _ => noC) (fun F _ => CK' (hL F)) fun F => ?_
 refine Yj (aV' R.length R F) ⟨⟨?_, [.tuple [.ptr 1000 0, iv 0]], [(1000, dkC nilS (o' R.length)), (1001, mp2 0 1), (1002, fiC R.length R.length), (1003, rB R), (1004, rB R)], [(1000, 1104), (1001, 1105), (1002, 1106), (1003, 1107), (1004, 1108)], by kernel_rfl, AR' (vs' := [.tuple [.ptr 1000 0, iv 0]]) (H' := [(1000, dkC nilS (o' R.length)), (1001, mp2 0 1), (1002, fiC R.length R.length), (1003, rB R), (1004, rB R)]) _ χ χ (Yb) ⟨⟨_, rfl, Yc⟩, ⟨_, rfl, Yc⟩, ⟨_, rfl, Yc⟩, ⟨_, rfl, A5' (A1' _ _) rfl⟩, ⟨_, rfl, A5' (A1' _ _) rfl⟩, Ye⟩, ?_⟩⟩
 ·clear hL; exact Cw10'
 ·have := Goes.shutNew (vs := [.tuple [.ptr 1000 0, iv 0]]) (R := fun _ : Unit => True) (L := fun _ => dTL R) (m := .turns [3]) 1000 δ () trivial χ χ ⟨_, _, rfl, by kernel_rfl⟩ ⟨⟨rfl, Ye, Ye⟩, Ye⟩
  have e : renL 1000 (dTL R) = [(1000, dkC nilS (o' R.length)), (1001, mp2 0 1), (1002, fiC R.length R.length), (1003, rB R), (1004, rB R)] := by
   show [(1000, AO.ren _ (dkC nilS (o' R.length))), (1001, AO.ren _ (mp2 0 1)), (1002, AO.ren _ (fiC R.length R.length)), (1003, AO.ren _ (rB R)), (1004, AO.ren _ (rB R))] = _; rw [KA']; rfl
  rwa [e] at this
theorem V6' {W : World} {f : FuncId} {A : List AV} {v : AV} {R : Bs} {H' : LH} (h : Tri Θ W f A (dTL R) v H') : Tri Θ W f A [(0, dT R)] v H' :=
 Tri.open (R := fun _ : Unit => True) (L := fun _ => dTL R) (H0 := []) (fun _ => rfl) (fun _ => A0' ⟨rfl, Ye, Ye, Ye, Ye⟩ (A0' ⟨Ye, rfl, Ye⟩ (A0' ⟨rfl, rfl, Ye⟩ (A0' (AB' _ _) (A0' (AB' _ _) A2'))))) (fun _ => ⟨_, rfl⟩) fun _ _ => by rw [List.append_nil]; exact h
end Go.Proofs.YtgahllbgipdchaaGreatDoor.Wk
