/- Parts of the proof, merged. -/
import Derived.Test.YtgahllbgipdchaaGreatDoorWrn6
import Derived.Test.YtgahllbgipdchaaGreatDoorWrn4
noncomputable section
set_option linter.unusedVariables false
set_option linter.unusedSimpArgs false
set_option maxRecDepth 100000
set_option linter.unusedSectionVars false
namespace Go.Proofs.YtgahllbgipdchaaGreatDoor.Wk
open Go Go.RowKit Eng Kit Tree
open Int renaming ofNat -> o'
open Go.Value renaming int -> vi'
open AO renaming cells -> ce'
open AV renaming v -> v'
open AV renaming ptr -> pt'
open List renaming length_append -> la'
open Go.Value renaming slice -> sl'
noncomputable section
def gDo3 : List AV -> AP (Nat × List (Nat × Nat)) := fun args => match args with
 | [.slice i _ _ _ _, _] => .read i fun o => match o with
  | .cells [_, .slice j _ _ _ _] _ => .ret (2, [(1030, i), (1031, j)])
  | .cells [_, .slice j _ _ _ _, _, x] _ => match x with
   | .slice b _ _ _ _ => .ret (1, [(1030, i), (1031, j), (1032, b)])
   | _ => .ret (1, [(1030, i), (1031, j)])
  | _ => .fail "files"
 | _ => .ret (0, [])
def cDo3 (z : Bool) (n m n2 : Nat) (R s R2 : Bs) (hZ hH hT : Nat -> Nat -> HP) : List AV -> Option (AP AV) := mkC gDo3 (fun _ => True) (fun p => nmF p.2) (fun p => match p.1 with
 | 0 => [nilS, iv 1099511627776]
 | 1 => [slH, iv 1099511627776]
 | _ => [.slice 1030 0 1 2 (.lo 1), iv 1099511627776]) (fun p => match p.1 with
 | 0 => []
 | 1 => hfO z n m R s
 | _ => outT n2 R2) (fun p => match p.1 with
 | 0 => .leaf .ret [.tuple [.ptr 1000 0, iv 0]] [(1000, .own .nothing hZ)]
 | 1 => .leaf .ret [.tuple [.ptr 1000 0, iv 0]] [(1000, .own (.turns [4]) hH)]
 | _ => .leaf .ret [.tuple [.ptr 1000 0, iv 0]] [(1000, .own (.turns [3]) hT)])
def gWo3 : List AV -> AP (Nat × Nat) := fun args => match args with
 | [.ptr i 0, _] => .read i fun o => match o with
  | .own (.turns [x]) _ => .ret (x.toNat, i)
  | .own _ _ => .ret (0, i)
  | _ => .fail "disk"
 | _ => .fail "disk"
def recO (z : Bool) (m : Nat) (s : Bs) : LH := match z with
 | true => [(1016, .cells [nilS] tRb)]
 | false => [(1016, .cells [sB 1017 m] tRb), (1017, rB s)]
def cWo3 (z b : Bool) (k m : Nat) (s : Bs) (s0 : Int) (hZ hH hT : Nat -> Nat -> HP) (D0 DG O : AO) : List AV -> Option (AP AV) := mkC gWo3 (fun _ => True) (fun p => nmW p.2) (fun p => [.ptr 0 0, sv nmL]) (fun p => match p.1 with
 | 0 => [(0, .own .nothing hZ)]
 | 4 => [(0, .own (.turns [4]) hH)]
 | _ => [(0, .own (.turns [3]) hT)]) (fun p => match p.1 with
 | 0 => .leaf .ret [.tuple [.ptr 1020 0, .slice 1021 0 1 1 (.lo 1), iv 0]] [(0, D0), (1020, lgC s0), (1021, .cells [nilS] tRb)]
 | 4 => (match b with
  | false => .leaf .ret [.tuple [.any, slR k, iv 0]] [(1016, O)]
  | true => .leaf .ret [.tuple [.any, .any, iv 0]] [])
 | _ => .leaf .ret [.tuple [.any, slR 1, iv 0]] ((0, DG) :: recO z m s))
def gCr3 : List AV -> AP (Nat × Nat) := fun args => match args with
 | .ptr i 0 :: _ => .read i fun o => match o with
  | .own (.turns _) _ => .ret (1, i)
  | .own _ _ => .ret (0, i)
  | _ => .fail "disk"
 | _ => .fail "disk"
def cCr3 (ok : Option Addr) (nk ck n n2 : Nat) (tr : Int) (R R2 : Bs) (h1 hR : Nat -> Nat -> HP) : List AV -> Option (AP AV) := mkC gCr3 (fun _ => True) (fun p => nmW p.2) (fun p => match p.1 with
 | 0 => [.ptr 0 0, EN' none 0 0 0]
 | _ => [.ptr 0 0, EN' ok nk ck tr]) (fun p => match p.1 with
 | 0 => [(0, .own .nothing h1)]
 | _ => [(0, .own (.turns [2]) hR)]) (fun p => match p.1 with
 | 0 => .leaf .ret [.slice 1030 0 1 2 (.lo 1)] ((0, .own .nothing h1) :: outH n R)
 | _ => .leaf .ret [.slice 1030 0 1 2 (.lo 1)] (outT n2 R2))
def cQh (oa : Option Addr) (n c q : Nat) (OZ : AO) : List AV -> Option (AP AV) := mkC (fun _ => .ret ()) (fun _ => True) (fun _ k => k) (fun _ => [slV oa n c]) (fun _ => []) (fun _ => .leaf .ret [.tuple [.slice 1000 0 q 1 (.lo q), .any]] [(1000, OZ)])
def cCn3 (z : Bool) (oa : Option Addr) (n c : Nat) (s : Bs) : List AV -> Option (AP AV) := match z with
 | true => cCnM oa n c
 | false => cCnO oa n c s
def cRn3 (z : Bool) (n n2 : Nat) (s : Bs) (s1 : Int) (h1 hR : Nat -> Nat -> HP) : List AV -> Option (AP AV) := match z with
 | true => mkC gAp (fun _ => True) nmA (fun _ => [.ptr 2 0, .mt]) (fun _ => [(0, .own .nothing h1), (2, lgC s1)]) (fun _ => .leaf .ret [iv 0] [(0, .own (.turns [2]) hR), (2, lg2 n2)])
 | false => mkC gAp (fun _ => True) nmA (fun _ => [.ptr 2 0, sB 4 n]) (fun _ => [(0, .own .nothing h1), (2, lgC s1), (4, rB s)]) (fun _ => .leaf .ret [iv 0] [(0, .own (.turns [2]) hR), (2, lg2 n2), (4, rB s)])
def cNg (DG : AO) : List AV -> Option (AP AV) := mkC (fun args => match args with | [.ptr i 0] => .ret i | _ => .fail "disk") (fun _ => True) nmW (fun _ => [.ptr 0 0]) (fun _ => [(0, DG)]) (fun _ => .leaf .ret [.slice 1000 0 1 1 (.lo 1)] [(1000, .cells [sv nm2] tSt)])
def lB1 (o1 o2 ok : Option Addr) (n1 c1 n2 c2 nk ck k0 k1 : Nat) (tr s0 s1 : Int) (D0 D1 : AO) (V0 V1 : List Value) : List AV -> AP (AX × List AV) := mkL gLk (fun _ => True) nmF (fun _ => tms 0 152 (b1 o1 o2 n1 c1 n2 c2 k0 0)) (fun _ => oLk D0 s0 tr V0 ok nk ck) (fun _ => .leaf (.exit 0) (tms 0 152 [(0, slV o1 n1 c1), (1, slV o2 n2 c2), (5, .ptr 1053 0), (7, .ptr 1050 0), (9, .ptr 1051 0), (10, slA k1)]) (oLk D1 s1 tr V1 ok nk ck))
def hRv (b : Bool) (t : Δ) : BD' := AC' ([hf' fRnw 1 1, hf' fRnw 4 1, hf' fRnw 4 5, hf' fRnw 4 6, hf' fRnw 7 1, hf' fRnw 7 4, hf' fRnw 7 5, hf' fRnw 19 1, hf' fRnw 23 1, (fRnw, 23, 5, hv (.lit !b)), hf' fRnw 23 10, hf' fRnw 23 11, hf' fRnw 23 12, hf' fRnw 25 4, hf' fRnw 28 1, ht' fRnw 31 1, ht' fRnw 31 5, ht' fRnw 31 6, (fRnw, 31, 11, ht t), (fRnw, 31, 13, ht t), ht' fRnw 31 14, ht' fRnw 31 15, ht' fRnw 31 20, ht' fRnw 31 21])
def G5' (z b : Bool) (o2 ok : Option Addr) (n2 c2 nk ck k1 q n n3 : Nat) (tr s0 s1 : Int) (R s R2 : Bs) (hZ hH hT h1 hR : Nat -> Nat -> HP) (D0 D1 DG O OZ : AO) (V1 : List Value) : E7' := [(L5', SN'), (fDo, cDo3 z n n2 n3 R s R2 hZ hH hT), (fWo, cWo3 z b k1 n2 s s0 hZ hH hT D0 DG O), (fLs, cLs s1 D1 (.own .nothing h1)), (fCr, cCr3 ok nk ck n n3 tr R R2 h1 hR), (fCn, cCn3 z o2 n2 c2 s), (fQh, cQh o2 n2 c2 q OZ), (fSm, cSm k1 O V1), (fRwl, cRn3 z n2 n3 s s1 h1 hR), (fNms, cNg DG)]
def lcRv (o1 o2 ok : Option Addr) (n1 c1 n2 c2 nk ck k1 : Nat) (tr s0 s1 : Int) (D0 D1 : AO) (V1 : List Value) : LcL := [(fRnw, 10, A4' fRnw 10, lB1 o1 o2 ok n1 c1 n2 c2 nk ck 1 k1 tr s0 s1 D0 D1 [.slice none 0 0] V1)]
abbrev y4' : Δ := ByteArray.mk (Array.mk [108, 111, 103])
abbrev k118' : Cnd := (f' (Wk j' j'))
abbrev k119' (q0 : Δ) : Cnd := (wb' (q0.toList == q0.toList) j')
abbrev k120' (q0 q1 q2 q3 q4 : Nat) (q5 : Bs) (q6 : Δ) : Cnd := (f' (0 + q0 <= (AV.rens (sgN (nmW q1) [q2,q3] q4) (rowV encB q5)).length /\ List.take q0 (List.drop 0 (AV.rens (sgN (nmW q1) [q2,q3] q4) (rowV encB q5))) = vmap (List.map (fun b => vi' IntKind.u8 ↑b.toNat) q6.data.toList)))
abbrev UA' (q0 : Option Addr) (q1 q2 : Nat) (q3 : Int) (q4 : Nat) (q5 : Nat -> Nat -> HP) (q6 q7 q8 q9 q10 : Nat) (q11 : Bs) (q12 : Nat) (q13 : Nat -> Nat -> HP) (z : Cnd) : Cnd := ((f' (Wk (b' false) g')).a ((ee' [v' (sl' q0 q1 q2),z' q3]).a (((p' True).a ((vw' [pt' q4 0,AV.agg [v' (sl' q0 q1 q2),z' q3]]).a (f' (OW (AO.own (Md.turns [o' 2]) q5) (AO.own (Md.turns [o' 2]) q5))))).a (((p' True).a ((vw' [AV.slice q6 0 1 2 (Cp.lo 1),i' 1099511627776]).a ((ow' (ce' [s' nm2,AV.slice q7 0 q8 1 (Cp.lo q8)] 108)).a (f' (OW (ce' (AV.rens (sgN (nmW q4) [q9,q10] q6) (rowV encB q11)) 10) (ce' (AV.rens (nmF [(q9,q6),(q10,q7)]) (rowV encB q11)) 10)))))).a ((f' (Wk (b' false) g')).a (((p' True).a ((p' (VW [pt' q12 0,s' y4'] [pt' q12 0,s' nmL])).a (f' (OW (AO.own (Md.turns [o' 3]) q13) (AO.own (Md.turns [o' 3]) q13))))).a ((f' (Wk (b' true) j')).a ((f' (Wk (b' true) j')).a ((f' (Wk j' j')).a ((fe' true).a ((fe' true).a z)))))))))))
abbrev k122' (q0 q1 q2 : Nat) (q3 : Nat -> Nat -> HP) (q4 : Nat) (q5 : Int) (q6 : Nat) (q7 : Bs) : Cnd := ((p' True).a ((vw' [pt' q0 0,AV.slice q1 0 q2 1 (Cp.lo q2)]).a ((ow' (AO.own Md.nothing q3)).a ((ow' (ce' [pt' q4 0,s' nmL,i' 1,z' q5] 154)).a (f' (OW (ce' (AV.rens (sgN (fun k => k) [q6] q1) (rowV encB q7)) 10) (ce' (AV.rens (nmA (q4,q0,q1)) (rowV encB q7)) 10)))))))
abbrev bM' (q0 q1 q2 q3 q4 q5 : Nat) (q6 : AO) (q7 q8 q9 q10 q11 q12 q13 q14 q15 : Nat) (q16 : List Value) (z : Cnd) : Cnd := ((f' (Wk (b' false) g')).a ((wb' (↑q0 == o' 0) j').a (((p' True).a ((vw' [AV.slice q1 0 q2 1 (Cp.lo q2),AV.slice q3 0 q2 1 (Cp.lo q2)]).a ((p' (OW (AO.ren (sgN (nmW q4) [q5] q1) q6) (AO.ren (nmS (q1,q3)) q6))).a (f' (OW (ce' (AV.rens (sgN (nmF [(q7,q8),(q9,q10),(q11,q12),(q13,q14)]) [q7,q9,q11,q13] q15) (vmap q16)) 98) (ce' (AV.rens (nmS (q1,q3)) (vmap q16)) 98)))))).a ((f' (Wk (b' false) g')).a ((f' (Wk g' g')).a ((f' (Wk g' g')).a z))))))
abbrev bL' (q0 : Nat) (q1 : Nat -> Nat -> HP) (q2 : Addr) (q3 q4 : Nat) (z : Cnd) : Cnd := ((f' (Wk (b' false) g')).a (((p' True).a ((p' (VW [pt' q0 0,s' y4'] [pt' q0 0,s' nmL])).a (f' (OW (AO.own (Md.turns [o' 4]) q1) (AO.own (Md.turns [o' 4]) q1))))).a (((p' True).a (f' (VW [v' (sl' (some q2) q3 q4)] [v' (sl' (some q2) q3 q4)]))).a z)))
abbrev k125' (q0 q1 q2 q3 q4 q5 q6 q7 q8 : Nat) (q9 : Bs) (q10 q11 : Nat) (q12 : Bs) : Cnd := ((p' True).a ((vw' [AV.slice q0 0 2 2 (Cp.lo 2),i' 1099511627776]).a ((p' (OW (ce' [s' nm1,AV.slice q1 0 q2 1 (Cp.lo q2),s' y2',AV.slice q3 0 q4 1 (Cp.lo q4)] 108) (ce' [s' nm1,AV.slice q1 0 q2 1 (Cp.lo q2),s' nm2,AV.slice q3 0 q4 1 (Cp.lo q4)] 108))).a ((p' (OW (ce' (AV.rens (sgN (nmW q5) [q6,q7] q8) (rowV encB q9)) 10) (ce' (AV.rens (nmF [(q6,q0),(q7,q1),(q10,q3)]) (rowV encB q9)) 10))).a (f' (OW (ce' (AV.rens (sgN (fun k => k) [q11] q3) (rowV encB q12)) 10) (ce' (AV.rens (nmF [(q6,q0),(q7,q1),(q10,q3)]) (rowV encB q12)) 10)))))))
abbrev bK' (q0 q1 : Nat) (q2 : Nat -> Nat -> HP) (q3 : Option Addr) (q4 : Addr) (q5 : Option Addr) (q6 q7 q8 q9 q10 q11 : Nat) (q12 q13 q14 : Int) (q15 q16 : AO) (q17 : List Value) (q18 q19 q20 q21 q22 q23 q24 q25 q26 q27 q28 : Nat) (q29 : Nat -> Nat -> HP) (z : Cnd) : Cnd := (((p' True).a (f' (VW [] []))).a ((f' (Wk (b' false) g')).a (((p' True).a (f' (VW [e',i' 1099511627776] [e',i' 1099511627776]))).a ((f' (Wk (b' false) g')).a ((wb' (decide (↑q0 > o' 1048576)) g').a ((f' (Wk g' g')).a (((p' True).a ((p' (VW [pt' q1 0,s' y4'] [pt' q1 0,s' nmL])).a (f' (OW (AO.own Md.nothing q2) (AO.own Md.nothing q2))))).a ((f' (Wk (b' false) g')).a ((f' (Wk (b' false) g')).a ((f' (Wk g' g')).a ((p' ((fRnw,10,A4' fRnw 10,lB1 q3 (some q4) q5 q6 q7 q0 q8 q9 q10 1 q11 q12 q13 q14 q15 q16 [sl' none 0 0] q17).snd.snd.fst = (fRnw,10,A4' fRnw 10,lB1 q3 (some q4) q5 q6 q7 q0 q8 q9 q10 1 q11 q12 q13 q14 q15 q16 [sl' none 0 0] q17).snd.snd.fst)).a ((p' True).a ((p' (VW (v' (sl' q3 q6 q7)::v' (sl' (some q4) q0 q8)::AV.agg [v' (sl' q5 q9 q10),z' q12]::u'::u'::pt' q18 0::b' false::pt' q1 0::i' 0::pt' q19 0::AV.slice q20 0 1 1 (Cp.lo 1)::i' 0::ru8 (u'::u'::u'::b' true::g'::AV.tuple [pt' q1 0,i' 0]::AV.tuple [pt' q1 0,i' 0]::pt' q1 0::i' 0::pt' q1 0::g'::g'::v' (sl' (some q4) q0 q8)::z' ↑q0::g'::g'::u'::u'::AV.tuple [pt' q19 0,AV.slice q20 0 1 1 (Cp.lo 1),i' 0]::pt' q1 0::AV.tuple [pt' q19 0,AV.slice q20 0 1 1 (Cp.lo 1),i' 0]::pt' q19 0::AV.slice q20 0 1 1 (Cp.lo 1)::i' 0::pt' q19 0::g'::g'::i' 0::g'::g'::v' (sl' q3 q6 q7)::z' ↑q6::i' 0::ru16 (ru16 (ru16 (ru16 (ru16 (ru16 (u'::u'::u'::[])))))))) (v' (sl' q3 q6 q7)::v' (sl' (some q4) q0 q8)::a'::a'::a'::pt' q18 0::a'::pt' q1 0::a'::pt' q19 0::AV.slice q20 0 1 1 (Cp.lo 1)::ra16 (ra16 (ra4 (a'::a'::a'::v' (sl' q3 q6 q7)::i' q6::i' 0::ra16 (ra16 (ra16 (ra16 (ra16 (ra16 (a'::a'::a'::[])))))))))))).a ((p' (OW (AO.ren (sgN (nmW q1) [q21,q22] q19) q15) (AO.ren (nmF [(q23,q1),(q24,q19),(q25,q20),(q26,q18)]) q15))).a ((ow' (ce' [pt' q1 0,s' nmL,i' 1,z' q13] 154)).a ((ow' (ce' [e'] 98)).a ((ow' (ce' [v' (sl' q5 q9 q10),z' q12] 94)).a (((p' True).a ((vw' [pt' q27 0]).a ((p' (OW (AO.ren (sgN (nmF [(q23,q1),(q24,q19),(q25,q20),(q26,q18)]) [q23,q24,q25,q26] q28) q16) (AO.ren (nmA (q28,q27,0)) q16))).a (f' (OW (ce' [pt' q28 0,s' nmL,i' 1,z' q14] 154) (ce' [pt' q28 0,s' nmL,i' 1,z' q14] 154)))))).a (((p' True).a ((vw' [pt' q28 0,AV.agg [e',i' 0]]).a (f' (OW (AO.own Md.nothing q29) (AO.own Md.nothing q29))))).a (((p' True).a (f' (VW [v' (sl' (some q4) q0 q8)] [v' (sl' (some q4) q0 q8)]))).a ((tt'.a (tt'.a (tt'.a (tt'.a (tt'.a (tt'.a (ee' true))))))).a z)))))))))))))))))))))
theorem YP' (W : World) (o1 ok : Option Addr) (a2 : Addr) (n1 c1 n2 c2 nk ck k1 q n n3 : Nat) (tr s0 s1 : Int) (R s R2 : Bs) (hZ hH hT h1 hR : Nat -> Nat -> HP) (D0 D1 DG O OZ : AO) (V1 : List Value) (t : Δ) (F : HP) : wRun (G5' false false (some a2) ok n2 c2 nk ck k1 q n n3 tr s0 s1 R s R2 hZ hH hT h1 hR D0 D1 DG O OZ V1) (hRv false t) (lcRv o1 (some a2) ok n1 c1 n2 c2 nk ck k1 tr s0 s1 D0 D1 V1) W fRnw [slV o1 n1 c1, slV (some a2) n2 c2, EN' ok nk ck tr] [] [] F = VT.leaf (b' true) [] 1123 (bK' n2 1101 hZ o1 a2 ok n1 c1 c2 nk ck k1 tr s0 s1 D0 D1 V1 1100 1102 1103 1020 1021 1050 1051 1052 1053 1105 1104 h1 ((k125' 1112 1109 n 1110 n2 1104 1030 1031 1108 R 1032 1000 s).a (bL' 1113 hH a2 n2 c2 (bM' q 1114 k1 1106 1113 1016 O 1050 1101 1051 1102 1052 1103 1053 1100 1104 V1 ((k112' a2 n2 c2).a ((k122' 1105 1116 n2 h1 1104 s1 1000 s).a (UA' ok nk ck tr 1104 hR 1117 1118 n3 1030 1031 R2 1119 hT ((k120' n2 1119 1016 1017 1120 s t).a ((f' (t.size = n2 /\ ∀ (j : Nat),j < t.size -> (envW (G5' false false (some a2) ok n2 c2 nk ck k1 q n n3 tr s0 s1 R s R2 hZ hH hT h1 hR D0 D1 DG O OZ V1) (hRv false t) (lcRv o1 (some a2) ok n1 c1 n2 c2 nk ck k1 tr s0 s1 D0 D1 V1) W F).W.cell? (a2.add j) = some (vi' IntKind.u8 ↑(t.data.toList.getD j 0).toNat))).a ((k119' t).a (k118'.a (((Cnd.p True).a ((vw' [pt' 1119 0]).a (f' (OW (AO.ren (sgN (nmW 1119) [1016,1017] 1120) DG) (AO.ren (nmW 1119) DG))))).a (h92' k1'))))))))))))) := χ
abbrev k127' : Cnd := (f' (Wk g' g'))
theorem YO' (W : World) (o1 ok : Option Addr) (a2 : Addr) (n1 c1 n2 c2 nk ck k1 q n n3 : Nat) (tr s0 s1 : Int) (R s R2 : Bs) (hZ hH hT h1 hR : Nat -> Nat -> HP) (D0 D1 DG O OZ : AO) (V1 : List Value) (t : Δ) (F : HP) : wRun (G5' false true (some a2) ok n2 c2 nk ck k1 q n n3 tr s0 s1 R s R2 hZ hH hT h1 hR D0 D1 DG O OZ V1) (hRv true t) (lcRv o1 (some a2) ok n1 c1 n2 c2 nk ck k1 tr s0 s1 D0 D1 V1) W fRnw [slV o1 n1 c1, slV (some a2) n2 c2, EN' ok nk ck tr] [] [] F = VT.leaf (b' true) [] 1122 (bK' n2 1101 hZ o1 a2 ok n1 c1 c2 nk ck k1 tr s0 s1 D0 D1 V1 1100 1102 1103 1020 1021 1050 1051 1052 1053 1105 1104 h1 ((k125' 1112 1109 n 1110 n2 1104 1030 1031 1108 R 1032 1000 s).a (bL' 1113 hH a2 n2 c2 (k7'.a ((wb' (↑q == o' 0) g').a (k127'.a (k127'.a ((k112' a2 n2 c2).a ((k122' 1105 1115 n2 h1 1104 s1 1000 s).a (UA' ok nk ck tr 1104 hR 1116 1117 n3 1030 1031 R2 1118 hT ((k120' n2 1118 1016 1017 1119 s t).a ((f' (t.size = n2 /\ ∀ (j : Nat),j < t.size -> (envW (G5' false true (some a2) ok n2 c2 nk ck k1 q n n3 tr s0 s1 R s R2 hZ hH hT h1 hR D0 D1 DG O OZ V1) (hRv true t) (lcRv o1 (some a2) ok n1 c1 n2 c2 nk ck k1 tr s0 s1 D0 D1 V1) W F).W.cell? (a2.add j) = some (vi' IntKind.u8 ↑(t.data.toList.getD j 0).toNat))).a ((k119' t).a (k118'.a (((Cnd.p True).a ((vw' [pt' 1118 0]).a (f' (OW (AO.ren (sgN (nmW 1118) [1016,1017] 1119) DG) (AO.ren (nmW 1118) DG))))).a (h92' k1')))))))))))))))) := χ
abbrev k128' (q0 q1 q2 : Nat) (q3 : AO) : Cnd := ((p' True).a ((vw' [pt' q0 0]).a (f' (OW (AO.ren (sgN (nmW q0) [q1] q2) q3) (AO.ren (nmW q0) q3)))))
abbrev k129' (q0 : Δ) : Cnd := (f' (q0 = ByteArray.empty))
abbrev k130' (q0 : Nat) (q1 : Nat -> Nat -> HP) (q2 : Nat) (q3 : Int) : Cnd := ((p' True).a ((vw' [pt' q0 0,AV.mt]).a ((ow' (AO.own Md.nothing q1)).a (f' (OW (ce' [pt' q2 0,s' nmL,i' 1,z' q3] 154) (ce' [pt' q2 0,s' nmL,i' 1,z' q3] 154))))))
abbrev k131' (q0 q1 q2 q3 q4 q5 q6 : Nat) (q7 : Bs) : Cnd := ((p' True).a ((vw' [AV.slice q0 0 2 2 (Cp.lo 2),i' 1099511627776]).a ((p' (OW (ce' [s' nm1,AV.slice q1 0 q2 1 (Cp.lo q2),s' y2',AV.mt] 108) (ce' [s' nm1,AV.slice q1 0 q2 1 (Cp.lo q2),s' nm2,AV.mt] 108))).a (f' (OW (ce' (AV.rens (sgN (nmW q3) [q4,q5] q6) (rowV encB q7)) 10) (ce' (AV.rens (nmF [(q4,q0),(q5,q1)]) (rowV encB q7)) 10))))))
theorem YM' (W : World) (o1 ok : Option Addr) (a2 : Addr) (n1 c1 n2 c2 nk ck k1 q n n3 : Nat) (tr s0 s1 : Int) (R s R2 : Bs) (hZ hH hT h1 hR : Nat -> Nat -> HP) (D0 D1 DG O OZ : AO) (V1 : List Value) (t : Δ) (F : HP) : wRun (G5' true false (some a2) ok n2 c2 nk ck k1 q n n3 tr s0 s1 R s R2 hZ hH hT h1 hR D0 D1 DG O OZ V1) (hRv false t) (lcRv o1 (some a2) ok n1 c1 n2 c2 nk ck k1 tr s0 s1 D0 D1 V1) W fRnw [slV o1 n1 c1, slV (some a2) n2 c2, EN' ok nk ck tr] [] [] F = VT.leaf (b' true) [] 1120 (bK' n2 1101 hZ o1 a2 ok n1 c1 c2 nk ck k1 tr s0 s1 D0 D1 V1 1100 1102 1103 1020 1021 1050 1051 1052 1053 1105 1104 h1 ((k131' 1111 1109 n 1104 1030 1031 1108 R).a (bL' 1112 hH a2 n2 c2 (bM' q 1113 k1 1106 1112 1016 O 1050 1101 1051 1102 1052 1103 1053 1100 1104 V1 ((k112' a2 n2 c2).a ((k130' 1105 h1 1104 s1).a (UA' ok nk ck tr 1104 hR 1115 1116 n3 1030 1031 R2 1117 hT ((k129' t).a ((f' (t.size = n2 /\ ∀ (j : Nat),j < t.size -> (envW (G5' true false (some a2) ok n2 c2 nk ck k1 q n n3 tr s0 s1 R s R2 hZ hH hT h1 hR D0 D1 DG O OZ V1) (hRv false t) (lcRv o1 (some a2) ok n1 c1 n2 c2 nk ck k1 tr s0 s1 D0 D1 V1) W F).W.cell? (a2.add j) = some (vi' IntKind.u8 ↑(t.data.toList.getD j 0).toNat))).a ((k119' t).a (k118'.a ((k128' 1117 1016 1118 DG).a (h92' k1'))))))))))))) := χ
abbrev k132' (q0 q1 : Nat) : Cnd := ((p' True).a (f' (VW [v' (sl' none q0 q1)] [v' (sl' none q0 q1)])))
theorem YN' (W : World) (o1 ok : Option Addr) (n1 c1 n2 c2 nk ck k1 q n n3 : Nat) (tr s0 s1 : Int) (R s R2 : Bs) (hZ hH hT h1 hR : Nat -> Nat -> HP) (D0 D1 DG O OZ : AO) (V1 : List Value) (t : Δ) (F : HP) : wRun (G5' true false none ok n2 c2 nk ck k1 q n n3 tr s0 s1 R s R2 hZ hH hT h1 hR D0 D1 DG O OZ V1) (hRv false t) (lcRv o1 none ok n1 c1 n2 c2 nk ck k1 tr s0 s1 D0 D1 V1) W fRnw [slV o1 n1 c1, slV none n2 c2, EN' ok nk ck tr] [] [] F = VT.leaf (b' true) [] 1120 (((Cnd.p True).a (f' (VW [] []))).a (k7'.a (((Cnd.p True).a (f' (VW [e',i' 1099511627776] [e',i' 1099511627776]))).a (k7'.a ((k18' n2).a (k127'.a (((Cnd.p True).a ((p' (VW [pt' 1101 0,s' y4'] [pt' 1101 0,s' nmL])).a (f' (OW (AO.own Md.nothing hZ) (AO.own Md.nothing hZ))))).a (k7'.a (h72' ((p' ((fRnw,10,A4' fRnw 10,lB1 o1 none ok n1 c1 n2 c2 nk ck 1 k1 tr s0 s1 D0 D1 [sl' none 0 0] V1).snd.snd.fst = (fRnw,10,A4' fRnw 10,lB1 o1 none ok n1 c1 n2 c2 nk ck 1 k1 tr s0 s1 D0 D1 [sl' none 0 0] V1).snd.snd.fst)).a (k4'.a ((p' (VW (v' (sl' o1 n1 c1)::v' (sl' none n2 c2)::AV.agg [v' (sl' ok nk ck),z' tr]::u'::u'::pt' 1100 0::b' false::pt' 1101 0::i' 0::pt' 1102 0::AV.slice 1103 0 1 1 (Cp.lo 1)::i' 0::ru8 (u'::u'::u'::b' true::g'::AV.tuple [pt' 1101 0,i' 0]::AV.tuple [pt' 1101 0,i' 0]::pt' 1101 0::i' 0::pt' 1101 0::g'::g'::v' (sl' none n2 c2)::z' ↑n2::g'::g'::u'::u'::AV.tuple [pt' 1102 0,AV.slice 1103 0 1 1 (Cp.lo 1),i' 0]::pt' 1101 0::AV.tuple [pt' 1102 0,AV.slice 1103 0 1 1 (Cp.lo 1),i' 0]::pt' 1102 0::AV.slice 1103 0 1 1 (Cp.lo 1)::i' 0::pt' 1102 0::g'::g'::i' 0::g'::g'::v' (sl' o1 n1 c1)::z' ↑n1::i' 0::ru16 (ru16 (ru16 (ru16 (ru16 (ru16 (u'::u'::u'::[])))))))) (v' (sl' o1 n1 c1)::v' (sl' none n2 c2)::a'::a'::a'::pt' 1100 0::a'::pt' 1101 0::a'::pt' 1102 0::AV.slice 1103 0 1 1 (Cp.lo 1)::ra16 (ra16 (ra4 (a'::a'::a'::v' (sl' o1 n1 c1)::i' n1::i' 0::ra16 (ra16 (ra16 (ra16 (ra16 (ra16 (a'::a'::a'::[])))))))))))).a ((p' (OW (AO.ren (sgN (nmW 1101) [1020,1021] 1102) D0) (AO.ren (nmF [(1050,1101),(1051,1102),(1052,1103),(1053,1100)]) D0))).a ((ow' (ce' [pt' 1101 0,s' nmL,i' 1,z' s0] 154)).a ((ow' (ce' [e'] 98)).a ((k49' ok nk ck tr).a (((Cnd.p True).a ((vw' [pt' 1105 0]).a ((p' (OW (AO.ren (sgN (nmF [(1050,1101),(1051,1102),(1052,1103),(1053,1100)]) [1050,1051,1052,1053] 1104) D1) (AO.ren (nmA (1104,1105,0)) D1))).a (f' (OW (ce' [pt' 1104 0,s' nmL,i' 1,z' s1] 154) (ce' [pt' 1104 0,s' nmL,i' 1,z' s1] 154)))))).a (((Cnd.p True).a ((vw' [pt' 1104 0,AV.agg [e',i' 0]]).a (f' (OW (AO.own Md.nothing h1) (AO.own Md.nothing h1))))).a ((k132' n2 c2).a ((tt'.a (tt'.a (tt'.a (tt'.a (tt'.a (tt'.a (ee' true))))))).a ((k131' 1111 1109 n 1104 1030 1031 1108 R).a (k7'.a (((Cnd.p True).a ((p' (VW [pt' 1112 0,s' y4'] [pt' 1112 0,s' nmL])).a (f' (OW (AO.own (Md.turns [o' 4]) hH) (AO.own (Md.turns [o' 4]) hH))))).a ((k132' n2 c2).a (bM' q 1113 k1 1106 1112 1016 O 1050 1101 1051 1102 1052 1103 1053 1100 1104 V1 ((k132' n2 c2).a ((k130' 1105 h1 1104 s1).a (UA' ok nk ck tr 1104 hR 1115 1116 n3 1030 1031 R2 1117 hT ((k129' t).a ((k129' t).a ((k119' t).a (k118'.a ((k128' 1117 1016 1118 DG).a (h92' k1')))))))))))))))))))))))))))))))))) := χ
end
theorem WW' (W : World) (o1 ok : Option Addr) (a2 : Addr) (n1 c1 n2 c2 nk ck k1 q n n3 : Nat) (tr s0 s1 : Int) (R s R2 : Bs) (hZ hH hT' h1 hR : Nat -> Nat -> HP) (D0 D1 DG O OZ : AO) (V1 : List Value) (t : Δ)
  (p : ∀ F, AF' W F -> ∀ x ∈ G5' false false (some a2) ok n2 c2 nk ck k1 q n n3 tr s0 s1 R s R2 hZ hH hT' h1 hR D0 D1 DG O OZ V1, C1OK Θ F x.1 x.2) (pl : ∀ F, AF' W F -> ∀ x ∈ lcRv o1 (some a2) ok n1 c1 n2 c2 nk ck k1 tr s0 s1 D0 D1 V1, L1OK Θ F x.2.2.1 x.2.2.2)
  (e0 : ∀ σ, D0.ren σ = D0) (e1 : ∀ σ, D1.ren σ = D1) (e2 : ∀ σ, DG.ren σ = DG) (e3 : ∀ σ, O.ren σ = O) (e4 : ∀ σ, OZ.ren σ = OZ) (hm : n2 <= 1048576) (hq : q = 0) (hT : t.size = n2 /\ ∀ j, j < t.size -> W.cell? (a2.add j) = some (.int .u8 ((t.data.toList.getD j 0).toNat : Int))) (hS : 0 + n2 <= (rowV encB s).length /\ List.take n2 (List.drop 0 (rowV encB s)) = vmap (List.map (fun b => vi' .u8 (b.toNat : Int)) t.data.toList)) :
  Tri Θ W fRnw [slV o1 n1 c1, slV (some a2) n2 c2, EN' ok nk ck tr] [] (bv true) [] := by
 refine AJ' (con := G5' false false (some a2) ok n2 c2 nk ck k1 q n n3 tr s0 s1 R s R2 hZ hH hT' h1 hR D0 D1 DG O OZ V1) (hints := hRv false t) (lc := lcRv o1 (some a2) ok n1 c1 n2 c2 nk ck k1 tr s0 s1 D0 D1 V1) [] rfl p pl fun F => ?_
 refine Yj (YP' W o1 ok a2 n1 c1 n2 c2 nk ck k1 q n n3 tr s0 s1 R s R2 hZ hH hT' h1 hR D0 D1 DG O OZ V1 t F) ⟨⟨?_, (AR' (vs' := [bv true]) (H' := []) [] rfl rfl (Yb) (show CG' [] [] [] [] from trivial)).fits rfl⟩⟩; clear p pl; have f1 : decide ((n2 : Int) > o' 1048576) = false := decide_eq_false (by simp only [Z0]; omega)
 have f2 : ((q : Int) == o' 0) = true := by simp only [Z0]; exact beq_iff_eq.2 ω
 have f3 : (t.toList == t.toList) = true := beq_self_eq_true _; exact Cw19'
theorem WV' (W : World) (o1 ok : Option Addr) (a2 : Addr) (n1 c1 n2 c2 nk ck k1 q n n3 : Nat) (tr s0 s1 : Int) (R s R2 : Bs) (hZ hH hT' h1 hR : Nat -> Nat -> HP) (D0 D1 DG O OZ : AO) (V1 : List Value) (t : Δ)
  (p : ∀ F, AF' W F -> ∀ x ∈ G5' false true (some a2) ok n2 c2 nk ck k1 q n n3 tr s0 s1 R s R2 hZ hH hT' h1 hR D0 D1 DG O OZ V1, C1OK Θ F x.1 x.2) (pl : ∀ F, AF' W F -> ∀ x ∈ lcRv o1 (some a2) ok n1 c1 n2 c2 nk ck k1 tr s0 s1 D0 D1 V1, L1OK Θ F x.2.2.1 x.2.2.2)
  (e0 : ∀ σ, D0.ren σ = D0) (e1 : ∀ σ, D1.ren σ = D1) (e2 : ∀ σ, DG.ren σ = DG) (e3 : ∀ σ, O.ren σ = O) (e4 : ∀ σ, OZ.ren σ = OZ) (hm : n2 <= 1048576) (hq : 0 < q) (hT : t.size = n2 /\ ∀ j, j < t.size -> W.cell? (a2.add j) = some (.int .u8 ((t.data.toList.getD j 0).toNat : Int))) (hS : 0 + n2 <= (rowV encB s).length /\ List.take n2 (List.drop 0 (rowV encB s)) = vmap (List.map (fun b => vi' .u8 (b.toNat : Int)) t.data.toList)) :
  Tri Θ W fRnw [slV o1 n1 c1, slV (some a2) n2 c2, EN' ok nk ck tr] [] (bv true) [] := by
 refine AJ' (con := G5' false true (some a2) ok n2 c2 nk ck k1 q n n3 tr s0 s1 R s R2 hZ hH hT' h1 hR D0 D1 DG O OZ V1) (hints := hRv true t) (lc := lcRv o1 (some a2) ok n1 c1 n2 c2 nk ck k1 tr s0 s1 D0 D1 V1) [] rfl p pl fun F => ?_
 refine Yj (YO' W o1 ok a2 n1 c1 n2 c2 nk ck k1 q n n3 tr s0 s1 R s R2 hZ hH hT' h1 hR D0 D1 DG O OZ V1 t F) ⟨⟨?_, (AR' (vs' := [bv true]) (H' := []) [] rfl rfl (Yb) (show CG' [] [] [] [] from trivial)).fits rfl⟩⟩; clear p pl; have f1 : decide ((n2 : Int) > o' 1048576) = false := decide_eq_false (by simp only [Z0]; omega)
 have f2 : ((q : Int) == o' 0) = false := by simp only [Z0]; exact beq_eq_false_iff_ne.2 ω
 have f3 : (t.toList == t.toList) = true := beq_self_eq_true _; exact Cw19'
theorem WT' (W : World) (o1 ok : Option Addr) (a2 : Addr) (n1 c1 n2 c2 nk ck k1 q n n3 : Nat) (tr s0 s1 : Int) (R s R2 : Bs) (hZ hH hT' h1 hR : Nat -> Nat -> HP) (D0 D1 DG O OZ : AO) (V1 : List Value) (t : Δ)
  (p : ∀ F, AF' W F -> ∀ x ∈ G5' true false (some a2) ok n2 c2 nk ck k1 q n n3 tr s0 s1 R s R2 hZ hH hT' h1 hR D0 D1 DG O OZ V1, C1OK Θ F x.1 x.2) (pl : ∀ F, AF' W F -> ∀ x ∈ lcRv o1 (some a2) ok n1 c1 n2 c2 nk ck k1 tr s0 s1 D0 D1 V1, L1OK Θ F x.2.2.1 x.2.2.2)
  (e0 : ∀ σ, D0.ren σ = D0) (e1 : ∀ σ, D1.ren σ = D1) (e2 : ∀ σ, DG.ren σ = DG) (e3 : ∀ σ, O.ren σ = O) (e4 : ∀ σ, OZ.ren σ = OZ) (hm : n2 <= 1048576) (hq : q = 0) (hT : t.size = n2 /\ ∀ j, j < t.size -> W.cell? (a2.add j) = some (.int .u8 ((t.data.toList.getD j 0).toNat : Int))) (hE : t = ByteArray.empty) :
  Tri Θ W fRnw [slV o1 n1 c1, slV (some a2) n2 c2, EN' ok nk ck tr] [] (bv true) [] := by
 refine AJ' (con := G5' true false (some a2) ok n2 c2 nk ck k1 q n n3 tr s0 s1 R s R2 hZ hH hT' h1 hR D0 D1 DG O OZ V1) (hints := hRv false t) (lc := lcRv o1 (some a2) ok n1 c1 n2 c2 nk ck k1 tr s0 s1 D0 D1 V1) [] rfl p pl fun F => ?_
 refine Yj (YM' W o1 ok a2 n1 c1 n2 c2 nk ck k1 q n n3 tr s0 s1 R s R2 hZ hH hT' h1 hR D0 D1 DG O OZ V1 t F) ⟨⟨?_, (AR' (vs' := [bv true]) (H' := []) [] rfl rfl (Yb) (show CG' [] [] [] [] from trivial)).fits rfl⟩⟩; clear p pl; have f1 : decide ((n2 : Int) > o' 1048576) = false := decide_eq_false (by simp only [Z0]; omega)
 have f2 : ((q : Int) == o' 0) = true := by simp only [Z0]; exact beq_iff_eq.2 ω
 have f3 : (t.toList == t.toList) = true := beq_self_eq_true _
 simp only [Cnd.holds, true_and, and_true, e0, e1, e2, e3, e4, f3]; and_intros; all_goals first | (with_reducible exact Ye) | (with_reducible exact rfl) | (with_reducible exact A3' f1) | (with_reducible exact A3' f2) | (with_reducible exact Ya) | (with_reducible exact Yb) | (with_reducible exact Yc) | exact hT.1 | exact hT.2 | exact hE | exact Kw8'
theorem WU' (W : World) (o1 ok : Option Addr) (n1 c1 n2 c2 nk ck k1 q n n3 : Nat) (tr s0 s1 : Int) (R s R2 : Bs) (hZ hH hT' h1 hR : Nat -> Nat -> HP) (D0 D1 DG O OZ : AO) (V1 : List Value) (t : Δ)
  (p : ∀ F, AF' W F -> ∀ x ∈ G5' true false none ok n2 c2 nk ck k1 q n n3 tr s0 s1 R s R2 hZ hH hT' h1 hR D0 D1 DG O OZ V1, C1OK Θ F x.1 x.2) (pl : ∀ F, AF' W F -> ∀ x ∈ lcRv o1 none ok n1 c1 n2 c2 nk ck k1 tr s0 s1 D0 D1 V1, L1OK Θ F x.2.2.1 x.2.2.2)
  (e0 : ∀ σ, D0.ren σ = D0) (e1 : ∀ σ, D1.ren σ = D1) (e2 : ∀ σ, DG.ren σ = DG) (e3 : ∀ σ, O.ren σ = O) (e4 : ∀ σ, OZ.ren σ = OZ) (hm : n2 <= 1048576) (hq : q = 0) (hE : t = ByteArray.empty) :
  Tri Θ W fRnw [slV o1 n1 c1, slV none n2 c2, EN' ok nk ck tr] [] (bv true) [] := by
 refine AJ' (con := G5' true false none ok n2 c2 nk ck k1 q n n3 tr s0 s1 R s R2 hZ hH hT' h1 hR D0 D1 DG O OZ V1) (hints := hRv false t) (lc := lcRv o1 none ok n1 c1 n2 c2 nk ck k1 tr s0 s1 D0 D1 V1) [] rfl p pl fun F => ?_
 refine Yj (YN' W o1 ok n1 c1 n2 c2 nk ck k1 q n n3 tr s0 s1 R s R2 hZ hH hT' h1 hR D0 D1 DG O OZ V1 t F) ⟨⟨?_, (AR' (vs' := [bv true]) (H' := []) [] rfl rfl (Yb) (show CG' [] [] [] [] from trivial)).fits rfl⟩⟩; clear p pl; have f1 : decide ((n2 : Int) > o' 1048576) = false := decide_eq_false (by simp only [Z0]; omega)
 have f2 : ((q : Int) == o' 0) = true := by simp only [Z0]; exact beq_iff_eq.2 ω
 have f3 : (t.toList == t.toList) = true := beq_self_eq_true _
 simp only [Cnd.holds, true_and, and_true, e0, e1, e2, e3, e4, f3]; and_intros; all_goals first | (with_reducible exact Ye) | (with_reducible exact rfl) | (with_reducible exact A3' f1) | (with_reducible exact A3' f2) | (with_reducible exact Ya) | (with_reducible exact Yb) | (with_reducible exact Yc) | exact hE | exact Kw8'
abbrev hHP (z : Bool) (u : Nat) (R s : Bs) : Nat -> Nat -> HP := exHP (fun _ : Unit => True) (fun _ => dHL z u R s)
abbrev tHP (R : Bs) : Nat -> Nat -> HP := exHP (fun _ : Unit => True) (fun _ => dTL R)
abbrev oHP (S : List Bs) : Nat -> Nat -> HP := exHP (fun xs : List Rs => xs.map (·.d) = ([] : List Bs).map AH') (dkL S [])
abbrev rHP (w : Bs) : Nat -> Nat -> HP := exHP (fun _ : Unit => True) (fun _ => dRL w)
def usH (z : Bool) (R s : Bs) : Nat := match z with
 | false => R.length + s.length
 | true => R.length
theorem bT' : ∀ args, RO (gDo3 args) := fun args => by
 unfold gDo3; split
 ·refine RO.read _ _ fun o => ?_
  split
  ·exact RO.ret _
  ·split <;> exact RO.ret _
  ·exact RO.fail _
 ·exact RO.ret _
theorem bR' : ∀ args, RO (gWo3 args) := fun args => by
 unfold gWo3; split
 ·refine RO.read _ _ fun o => ?_
  split <;> first | exact RO.ret _ | exact RO.fail _
 ·exact RO.fail _
theorem bU' : ∀ args, RO (gCr3 args) := fun args => by
 unfold gCr3; split
 ·refine RO.read _ _ fun o => ?_
  split <;> first | exact RO.ret _ | exact RO.fail _
 ·exact RO.fail _
theorem dE' (z : Bool) (R s w : Bs) (hb : R.length + s.length <= 2199023255552) (hp : 0 < R.length) (hq : z = false -> 0 < s.length) (hw : w.length <= 2199023255552) (hw0 : 0 < w.length) (F : HP) : C1OK Θ F fDo (cDo3 z R.length s.length w.length R s w zHP (hHP z (usH z R s) R s) (tHP w)) :=
 AX' (W := default) B8' (fun _ => .tuple [.ptr 1000 0, iv 0]) bT' (fun p => by rcases p with ⟨_ | _ | k, l⟩ <;> rfl) (fun p _ => by
  rcases p with ⟨_ | _ | k, l⟩
  ·exact do_z
  ·cases z with
   | false => exact do_h R s hb hp (hq rfl)
   | true => exact do_hz R s ω hp
  ·exact eo_f w hw hw0) fun p => by
  rcases p with ⟨_ | _ | k, l⟩
  ·exact ⟨rfl, rfl, ⟨Ye, Ye, Ye⟩, A2', ⟨⟨rfl, Ye, Ye⟩, Ye⟩, A0' Ye A2'⟩
  ·cases z with
   | false => exact ⟨rfl, rfl, ⟨rfl, Ye, Ye⟩, A0' ⟨Ye, rfl, Ye, rfl, Ye⟩ (A0' (AB' _ _) (A0' (AB' _ _) A2')), ⟨⟨rfl, Ye, Ye⟩, Ye⟩, A0' Ye A2'⟩
   | true => exact ⟨rfl, rfl, ⟨rfl, Ye, Ye⟩, A0' ⟨Ye, rfl, Ye, Ye, Ye⟩ (A0' (AB' _ _) A2'), ⟨⟨rfl, Ye, Ye⟩, Ye⟩, A0' Ye A2'⟩
  ·exact ⟨rfl, rfl, ⟨rfl, Ye, Ye⟩, A0' ⟨Ye, rfl, Ye⟩ (A0' (AB' _ _) A2'), ⟨⟨rfl, Ye, Ye⟩, Ye⟩, A0' Ye A2'⟩
theorem KP' {W : World} (hN : LN W) {w s : Bs} (K : OneR w s) (z : Bool) (hz : z = true ↔ s = []) : Tri Θ W fWo [.ptr 0 0, sv nmL] [(0, dT w)] (.tuple [.any, slR 1, iv 0]) ((0, dG) :: recO z s.length s) := by
 cases z with
 | true =>
  obtain rfl := hz.1 rfl; exact wo_n W hN w K
 | false => exact wo_s W hN w s K fun h => by cases hz.2 h
def WoH (W : World) (z b : Bool) (R s : Bs) (k : Nat) : Prop := match b with
 | false => Tri Θ W fWo [.ptr 0 0, sv nmL] [(0, .own (.turns [4]) (hHP z (usH z R s) R s))] (.tuple [.any, slR k, iv 0]) [(1016, rbO (AA' R))]
 | true => Tri Θ W fWo [.ptr 0 0, sv nmL] [(0, .own (.turns [4]) (hHP z (usH z R s) R s))] (.tuple [.any, .any, iv 0]) []
def woV (b : Bool) (k : Nat) (p : Nat × Nat) : AV := match p.1 with
 | 0 => .tuple [.ptr 1020 0, .slice 1021 0 1 1 (.lo 1), iv 0]
 | 4 => (match b with
  | false => .tuple [.any, slR k, iv 0]
  | true => .tuple [.any, .any, iv 0])
 | _ => .tuple [.any, slR 1, iv 0]
theorem d9' {W : World} (hN : LN W) (z b : Bool) (R s w : Bs) (k : Nat) (K : OneR w s) (hz : z = true ↔ s = []) (hH : WoH W z b R s k) (F : HP) (hF : AF' W F) : C1OK Θ F fWo (cWo3 z b k s.length s (o' (cat [[]]).length) zHP (hHP z (usH z R s) R s) (tHP w) (dO [[]] []) dG (rbO (AA' R))) :=
 AX' hF (woV b k) bR' (fun p => by rcases p with ⟨_ | _ | _ | _ | _ | n, i⟩ <;> cases b <;> rfl) (fun p _ => by
  rcases p with ⟨_ | _ | _ | _ | _ | n, i⟩
  ·exact wo_z W hN
  ·exact KP' hN K z hz
  ·exact KP' hN K z hz
  ·exact KP' hN K z hz
  ·cases b with
   | false => exact hH
   | true => exact hH
  ·exact KP' hN K z hz) fun p => by
  have hl : ClosedC [.ptr 0 0, sv nmL] [(0, .own (.turns [3]) (tHP w))] [.tuple [.any, slR 1, iv 0]] ((0, dG) :: recO z s.length s) := by
   cases z with
   | true => exact ⟨rfl, rfl, ⟨rfl, Ye, Ye⟩, A0' Ye A2', ⟨⟨Ye, rfl, Ye, Ye⟩, Ye⟩, A0' Ye (A0' ⟨Ye, Ye⟩ A2')⟩
   | false => exact ⟨rfl, rfl, ⟨rfl, Ye, Ye⟩, A0' Ye A2', ⟨⟨Ye, rfl, Ye, Ye⟩, Ye⟩, A0' Ye (A0' ⟨rfl, Ye⟩ (A0' (AB' _ _) A2'))⟩
  rcases p with ⟨_ | _ | _ | _ | _ | n, i⟩
  ·exact ⟨rfl, rfl, ⟨rfl, Ye, Ye⟩, A0' Ye A2', ⟨⟨rfl, rfl, Ye, Ye⟩, Ye⟩, A0' Ye (A0' ⟨rfl, Ye, Ye, Ye, Ye⟩ (A0' ⟨Ye, Ye⟩ A2'))⟩
  ·exact hl
  ·exact hl
  ·exact hl
  ·cases b with
   | false => exact ⟨rfl, rfl, ⟨rfl, Ye, Ye⟩, A0' Ye A2', ⟨⟨Ye, rfl, Ye, Ye⟩, Ye⟩, A0' Ye A2'⟩
   | true => exact ⟨rfl, rfl, ⟨rfl, Ye, Ye⟩, A0' Ye A2', ⟨⟨Ye, Ye, Ye, Ye⟩, Ye⟩, A2'⟩
  ·exact hl
theorem dF' (S : List Bs) (w : Bs) (ok : Option Addr) (nk ck : Nat) (tr : Int) (h0 : 0 < (cat S).length) (hz : (cat S).length <= 1099511627776) (hw : w.length <= 1099511627776) (hw0 : 0 < w.length) (F : HP) : C1OK Θ F fCr (cCr3 ok nk ck (cat S).length w.length tr (cat S) w (oHP S) (rHP w)) :=
 AX' (W := default) B8' (fun _ => .slice 1030 0 1 2 (.lo 1)) bU' (fun p => by rcases p with ⟨_ | k, i⟩ <;> rfl) (fun p _ => by
  rcases p with ⟨_ | k, i⟩
  ·exact d2' S none 0 0 0 h0 hz
  ·exact d3' w ok nk ck tr hw0 hw) fun p => by
  rcases p with ⟨_ | k, i⟩
  ·exact ⟨rfl, rfl, ⟨rfl, ⟨Ye, Ye, Ye⟩, Ye⟩, A0' Ye A2', ⟨rfl, Ye⟩, A0' Ye (A0' ⟨Ye, rfl, Ye⟩ (A0' (AB' _ _) A2'))⟩
  ·exact ⟨rfl, rfl, ⟨rfl, ⟨Ye, Ye, Ye⟩, Ye⟩, A0' Ye A2', ⟨rfl, Ye⟩, A0' ⟨Ye, rfl, Ye⟩ (A0' (AB' _ _) A2')⟩
theorem cQh_ok {W : World} {oa : Option Addr} {c : Nat} {s : Bs} (h : BAt W.cell? oa s) (hc : s.length <= c) (hsz : s.length <= 1099511627776) (F : HP) (hF : AF' W F) : C1OK Θ F fQh (cQh oa s.length c (AA' s).length (rzO (AA' s).length)) :=
 AX' hF (fun _ => .tuple [.slice 1000 0 (AA' s).length 1 (.lo (AA' s).length), .any]) (fun _ => RO.ret _) (fun _ => rfl) (fun _ _ => qh_tri W oa c s h hc hsz) fun _ => ⟨rfl, rfl, ⟨Ye, Ye⟩, A2', ⟨⟨rfl, Ye, Ye⟩, Ye⟩, A0' Ye A2'⟩
theorem dG' {W : World} {oa : Option Addr} {c : Nat} {s : Bs} (h : BAt W.cell? oa s) (z : Bool) (hz : z = true ↔ s = []) (F : HP) (hF : AF' W F) : C1OK Θ F fCn (cCn3 z oa s.length c s) := by
 cases z with
 | true =>
  obtain rfl := hz.1 rfl
  exact AX' hF (fun _ => .mt) (fun _ => RO.ret _) (fun _ => rfl) (fun _ _ => cn_mt W oa c) fun _ => ⟨rfl, rfl, ⟨Ye, Ye⟩, A2', ⟨Ye, Ye⟩, A2'⟩
 | false => exact AX' hF (fun _ => sB 1000 s.length) (fun _ => RO.ret _) (fun _ => rfl) (fun _ _ => VN' W oa c s h (List.length_pos_iff.2 fun e => by cases hz.2 e)) fun _ => ⟨rfl, rfl, ⟨Ye, Ye⟩, A2', ⟨rfl, Ye⟩, A0' (AB' _ _) A2'⟩
theorem dC' {W : World} (hN : LN W) (S : List Bs) (s : Bs) (sz : Int) (z : Bool) (hz : z = true ↔ s = []) (hm : s.length <= most) (hl : (cat S).length + (8 + s.length) <= 1099511627776) (F : HP) (hF : AF' W F) : C1OK Θ F fRwl (cRn3 z s.length (AH' s).length s sz (oHP S) (rHP (AH' s))) := by
 cases z with
 | true =>
  obtain rfl := hz.1 rfl
  exact AX' hF (fun _ => iv 0) PL' (fun _ => rfl) (fun _ _ => WZ' W hN S sz hl) fun _ => ⟨rfl, rfl, ⟨rfl, Ye, Ye⟩, A0' Ye (A0' ⟨rfl, Ye, Ye, Ye, Ye⟩ A2'), ⟨Ye, Ye⟩, A0' Ye (A0' ⟨rfl, Ye, Ye, Ye, Ye⟩ A2')⟩
 | false => exact AX' hF (fun _ => iv 0) PL' (fun _ => rfl) (fun _ _ => WY' W hN S s sz hm (List.length_pos_iff.2 fun e => by cases hz.2 e) hl) fun _ => ⟨rfl, rfl, ⟨rfl, rfl, Ye⟩, A0' Ye (A0' ⟨rfl, Ye, Ye, Ye, Ye⟩ (A0' (AB' _ _) A2')), ⟨Ye, Ye⟩, A0' Ye (A0' ⟨rfl, Ye, Ye, Ye, Ye⟩ (A0' (AB' _ _) A2'))⟩
theorem cNg_ok (F : HP) : C1OK Θ F fNms (cNg dG) :=
 AX' (W := default) B8' (fun _ => .slice 1000 0 1 1 (.lo 1)) (fun args => by split <;> first | exact RO.ret _ | exact RO.fail _) (fun _ => rfl) (fun _ _ => bC') fun _ => ⟨rfl, rfl, ⟨rfl, Ye⟩, A0' Ye A2', ⟨rfl, Ye⟩, A0' ⟨Ye, Ye⟩ A2'⟩
theorem lB1_ok {W : World} {o1 : Option Addr} {l : List Rs} (K : LkK W o1 l [[]] [.slice none 0 0]) (o2 : Option Addr) (c1 n2 c2 : Nat) (ok : Option Addr) (nk ck k1 : Nat) (tr : Int) (hk : k1 = 1 + l.length) (F : HP) (hF : AF' W F) : L1OK Θ F (A4' fRnw 10) (lB1 o1 o2 ok l.length c1 n2 c2 nk ck 1 k1 tr (o' (cat [[]]).length) (o' (cat ([[]] ++ l.map (·.d))).length) (dO [[]] []) (dO [[]] (l.map (·.d))) [.slice none 0 0] ([.slice none 0 0] ++ rwV l)) := by
 subst hk
 exact B7' hF gLk_ro (fun _ _ => X0' K o2 c1 n2 c2 ok nk ck tr) fun _ => by
  simp only [RT.pick]; exact AY' rfl rfl (A0' Ye (A0' Ye (A0' rfl (A0' rfl (A0' rfl (A0' rfl (A0' Ye (A0' Ye (A0' Ye A2'))))))))) (V7' _ _ _ _ _ _ _ _ _ rfl) (A0' Ye (A0' Ye (A0' rfl (A0' rfl (A0' rfl (A0' rfl A2')))))) (V7' _ _ _ _ _ _ _ _ _ rfl)
noncomputable section
structure RnK (W : World) (o1 o2 : Option Addr) (l : List Rs) (s : Bs) (c2 : Nat) : Prop where
 hN : LN W
 h1 : ArgR W o1 l
 h2 : BAt W.cell? o2 s
 hc : s.length <= c2
 hb : wRs l + s.length <= 1048576
section
variable {W : World} {o1 o2 : Option Addr} {l : List Rs} {s : Bs} {c2 : Nat}
theorem RnK.cs (K : RnK W o1 o2 l s c2) : (cat ([[]] ++ l.map (·.d))).length = 8 + (cat (l.map (·.d))).length := by rw [JI', la']; rfl
theorem RnK.cl (K : RnK W o1 o2 l s c2) : (cat (l.map (·.d))).length <= 8388608 := by have := SJ' l; have := K.hb; omega
theorem RnK.small (K : RnK W o1 o2 l s c2) : LR' ([[]] ++ l.map (·.d)) := fun r hr => by
 rcases List.mem_append.1 hr with hr | hr
 ·rw [List.mem_singleton.1 hr]; exact Nat.zero_le _
 ·obtain ⟨x, hx, rfl⟩ := List.mem_map.1 hr; exact (K.h1.el x hx).2
theorem RnK.whole (K : RnK W o1 o2 l s c2) : AA' (cat ([[]] ++ l.map (·.d))) = [[]] ++ l.map (·.d) := by
 have := EE' ([[]] ++ l.map (·.d)) [] K.small; rw [List.append_nil] at this; rw [this, BS' rfl, List.append_nil]
theorem RnK.sm (K : RnK W o1 o2 l s c2) : s.length <= most := by have := K.hb; show _ <= 1048576; omega
theorem RnK.con (K : RnK W o1 o2 l s c2) (z b : Bool) (hz : z = true ↔ s = []) (ok : Option Addr) (nk ck : Nat) (tr : Int) (hH : WoH W z b (cat ([[]] ++ l.map (·.d))) s (1 + l.length)) (F : HP) (hF : AF' W F) :
  ∀ x ∈ G5' z b o2 ok s.length c2 nk ck (1 + l.length) (AA' s).length (cat ([[]] ++ l.map (·.d))).length (AH' s).length tr (o' (cat [[]]).length) (o' (cat ([[]] ++ l.map (·.d))).length) (cat ([[]] ++ l.map (·.d))) s (AH' s) zHP (hHP z (usH z (cat ([[]] ++ l.map (·.d))) s) (cat ([[]] ++ l.map (·.d))) s) (tHP (AH' s)) (oHP ([[]] ++ l.map (·.d))) (rHP (AH' s)) (dO [[]] []) (dO [[]] (l.map (·.d))) dG (rbO (AA' (cat ([[]] ++ l.map (·.d))))) (rzO (AA' s).length) ([.slice none 0 0] ++ rwV l), C1OK Θ F x.1 x.2 := by
 have g1 := K.cs; have g2 := K.cl; have g3 := K.hb; have g4 : (AH' s).length = 8 + s.length := B2' s; have g5 := L0' l; have g6 := K.sm
 have hV : RowT W.cell? ([.slice none 0 0] ++ rwV l) (AA' (cat ([[]] ++ l.map (·.d)))) := by
  rw [K.whole]
  have hP : PB ({ d := [], a := none, c := 0 } :: l) W.cell? := by
   intro x hx
   rcases List.mem_cons.1 hx with rfl | hx
   ·exact ⟨⟨Nat.zero_le _, fun _ _ h => by cases h⟩, Yd⟩
   ·exact (K.h1.el x hx).1
  intro i r hi; have := RI' hP i r (by simpa using hi)
  have e : rwV ({ d := [], a := none, c := 0 } :: l) = [.slice none 0 0] ++ rwV l := by simp [rwV, Rs.val]
  rwa [e] at this
 have hwl : (AA' (cat ([[]] ++ l.map (·.d)))).length = 1 + l.length := by rw [K.whole, la', List.length_map]; rfl
 have q1 := QK' K.hN F hF; have q2 := dE' z (cat ([[]] ++ l.map (·.d))) s (AH' s) ω ω (fun e => List.length_pos_iff.2 fun h => by rw [hz.2 h] at e; cases e) ω ω F; have q3 := d9' K.hN z b (cat ([[]] ++ l.map (·.d))) s (AH' s) (1 + l.length) (OneR.mk' g6) hz hH F hF; have q4 := cLs_ok [[]] (l.map (·.d)) (o' (cat ([[]] ++ l.map (·.d))).length) δ ω (by rw [List.length_map]; omega) F; have q5 := dF' ([[]] ++ l.map (·.d)) (AH' s) ok nk ck tr ω ω ω ω F; have q6 := dG' (c := c2) K.h2 z hz F hF; have q7 := cQh_ok K.h2 K.hc ω F hF; have q8 := cSm_ok ([.slice none 0 0] ++ rwV l) (AA' (cat ([[]] ++ l.map (·.d)))) (by rw [hwl]; omega) hV F hF; rw [hwl] at q8; have q9 := dC' K.hN ([[]] ++ l.map (·.d)) s (o' (cat ([[]] ++ l.map (·.d))).length) z hz g6 ω F hF; have q10 := cNg_ok F; exact A7' q1 (A7' q2 (A7' q3 (A7' q4 (A7' q5 (A7' q6 (A7' q7 (A7' q8 (A7' q9 (BA' q10)))))))))
theorem RnK.loops (K : RnK W o1 o2 l s c2) (c1 : Nat) (ok : Option Addr) (nk ck : Nat) (tr : Int) (F : HP) (hF : AF' W F) :
  ∀ x ∈ lcRv o1 o2 ok l.length c1 s.length c2 nk ck (1 + l.length) tr (o' (cat [[]]).length) (o' (cat ([[]] ++ l.map (·.d))).length) (dO [[]] []) (dO [[]] (l.map (·.d))) ([.slice none 0 0] ++ rwV l), L1OK Θ F x.2.2.1 x.2.2.2 := by
 have g1 := K.cs; have g2 := K.cl; have g3 := K.hb; have g5 := L0' l
 have K1 : LkK W o1 l [[]] [.slice none 0 0] := ⟨K.hN, K.h1, by decide, by omega, by show 1 + _ < _; omega⟩
 exact CK' (lB1_ok K1 o2 c1 s.length c2 ok nk ck (1 + l.length) tr rfl F hF)
theorem Q7' (K : RnK W o1 o2 l s c2) (c1 : Nat) (ok : Option Addr) (nk ck : Nat) (tr : Int) : Tri Θ W fRnw [slV o1 l.length c1, slV o2 s.length c2, EN' ok nk ck tr] [] (bv true) [] := by
 have g1 := K.cs; have g2 := K.cl; have g3 := K.hb; have g5 := L0' l; have hm : s.length <= 1048576 := K.sm
 have hne : AA' (cat ([[]] ++ l.map (·.d))) ≠ [] := by rw [K.whole]; simp
 have hwl : (AA' (cat ([[]] ++ l.map (·.d)))).length = 1 + l.length := by rw [K.whole, la', List.length_map]; rfl
 by_cases hs : s = []
 ·have hz : true = true ↔ s = [] := ⟨fun _ => hs, fun _ => rfl⟩
  have hH : WoH W true false (cat ([[]] ++ l.map (·.d))) s (1 + l.length) := by
   have := wo_hZ W K.hN (cat ([[]] ++ l.map (·.d))) s ω hne; rw [hwl] at this; exact this
  have p := fun F hF => K.con true false hz ok nk ck tr hH F hF
  have pl := fun F hF => K.loops c1 ok nk ck tr F hF
  have hq : (AA' s).length = 0 := by rw [hs, BS' rfl]; rfl
  have hsz : s.length = 0 := by rw [hs]; rfl
  cases o2 with
  | none =>
   refine WU' W o1 ok l.length c1 s.length c2 nk ck (1 + l.length) (AA' s).length (cat ([[]] ++ l.map (·.d))).length (AH' s).length tr (o' (cat [[]]).length) (o' (cat ([[]] ++ l.map (·.d))).length) (cat ([[]] ++ l.map (·.d))) s (AH' s) zHP (hHP true (usH true (cat ([[]] ++ l.map (·.d))) s) (cat ([[]] ++ l.map (·.d))) s) (tHP (AH' s)) (oHP ([[]] ++ l.map (·.d))) (rHP (AH' s)) (dO [[]] []) (dO [[]] (l.map (·.d))) dG (rbO (AA' (cat ([[]] ++ l.map (·.d))))) (rzO (AA' s).length) ([.slice none 0 0] ++ rwV l) ByteArray.empty ?_ ?_ (fun _ => rfl) (fun _ => rfl) (fun _ => rfl) (fun _ => rfl) (fun _ => rfl) hm hq rfl
   ·with_reducible exact p
   ·with_reducible exact pl
  | some a2 =>
   refine WT' W o1 ok a2 l.length c1 s.length c2 nk ck (1 + l.length) (AA' s).length (cat ([[]] ++ l.map (·.d))).length (AH' s).length tr (o' (cat [[]]).length) (o' (cat ([[]] ++ l.map (·.d))).length) (cat ([[]] ++ l.map (·.d))) s (AH' s) zHP (hHP true (usH true (cat ([[]] ++ l.map (·.d))) s) (cat ([[]] ++ l.map (·.d))) s) (tHP (AH' s)) (oHP ([[]] ++ l.map (·.d))) (rHP (AH' s)) (dO [[]] []) (dO [[]] (l.map (·.d))) dG (rbO (AA' (cat ([[]] ++ l.map (·.d))))) (rzO (AA' s).length) ([.slice none 0 0] ++ rwV l) ByteArray.empty ?_ ?_ (fun _ => rfl) (fun _ => rfl) (fun _ => rfl) (fun _ => rfl) (fun _ => rfl) hm hq ⟨by rw [hsz]; rfl, fun j hj => absurd hj (Nat.not_lt_zero j)⟩ rfl
   ·with_reducible exact p
   ·with_reducible exact pl
 ·have hz : false = true ↔ s = [] := ⟨fun h => (by cases h), fun h => absurd h hs⟩
  have hp : 0 < s.length := List.length_pos_iff.2 hs
  obtain ⟨a2, rfl⟩ : ∃ a, o2 = some a := by
   obtain ⟨x, hx⟩ := BU' (l := s) hp; obtain ⟨a, e, _⟩ := K.h2.2 0 x hx; exact ⟨a, e⟩
  have hT := LW' K.h2
  have hS : 0 + s.length <= (rowV encB s).length /\ List.take s.length (List.drop 0 (rowV encB s)) = vmap (List.map (fun b => vi' .u8 (b.toNat : Int)) (ByteArray.mk ⟨s⟩).data.toList) := by
   have e : (rowV encB s).length = s.length := BJ' s; refine ⟨by rw [e]; omega, ?_⟩; rw [List.drop_zero, List.take_of_length_le (by rw [e]; exact Yd), DX']
  have pl := fun F hF => K.loops c1 ok nk ck tr F hF
  by_cases hw : AA' s = []
  ·have hH : WoH W false false (cat ([[]] ++ l.map (·.d))) s (1 + l.length) := by
    have := wo_hA W K.hN (cat ([[]] ++ l.map (·.d))) s ω hne hw hp; rw [hwl] at this; exact this
   have p := fun F hF => K.con false false hz ok nk ck tr hH F hF
   have hq : (AA' s).length = 0 := by rw [hw]; rfl
   refine WW' W o1 ok a2 l.length c1 s.length c2 nk ck (1 + l.length) (AA' s).length (cat ([[]] ++ l.map (·.d))).length (AH' s).length tr (o' (cat [[]]).length) (o' (cat ([[]] ++ l.map (·.d))).length) (cat ([[]] ++ l.map (·.d))) s (AH' s) zHP (hHP false (usH false (cat ([[]] ++ l.map (·.d))) s) (cat ([[]] ++ l.map (·.d))) s) (tHP (AH' s)) (oHP ([[]] ++ l.map (·.d))) (rHP (AH' s)) (dO [[]] []) (dO [[]] (l.map (·.d))) dG (rbO (AA' (cat ([[]] ++ l.map (·.d))))) (rzO (AA' s).length) ([.slice none 0 0] ++ rwV l) ⟨⟨s⟩⟩ ?_ ?_ (fun _ => rfl) (fun _ => rfl) (fun _ => rfl) (fun _ => rfl) (fun _ => rfl) hm hq hT hS
   ·with_reducible exact p
   ·with_reducible exact pl
  ·have hH : WoH W false true (cat ([[]] ++ l.map (·.d))) s (1 + l.length) := wo_hB W K.hN (cat ([[]] ++ l.map (·.d))) s ω hne hw
   have p := fun F hF => K.con false true hz ok nk ck tr hH F hF
   have hq : 0 < (AA' s).length := List.length_pos_iff.2 hw; refine WV' W o1 ok a2 l.length c1 s.length c2 nk ck (1 + l.length) (AA' s).length (cat ([[]] ++ l.map (·.d))).length (AH' s).length tr (o' (cat [[]]).length) (o' (cat ([[]] ++ l.map (·.d))).length) (cat ([[]] ++ l.map (·.d))) s (AH' s) zHP (hHP false (usH false (cat ([[]] ++ l.map (·.d))) s) (cat ([[]] ++ l.map (·.d))) s) (tHP (AH' s)) (oHP ([[]] ++ l.map (·.d))) (rHP (AH' s)) (dO [[]] []) (dO [[]] (l.map (·.d))) dG (rbO (AA' (cat ([[]] ++ l.map (·.d))))) (rzO (AA' s).length) ([.slice none 0 0] ++ rwV l) ⟨⟨s⟩⟩ ?_ ?_ (fun _ => rfl) (fun _ => rfl) (fun _ => rfl) (fun _ => rfl) (fun _ => rfl) hm hq hT hS
   ·with_reducible exact p
   ·with_reducible exact pl
end
end
theorem renews_calls {W : World} {o1 o2 : Option Addr} {l : List Rs} {s : Bs} {c2 : Nat} (K : RnK W o1 o2 l s c2) (c1 : Nat) (ok : Option Addr) (nk ck : Nat) (tr : Int) :
  Calls Θ fRnw #[.slice o1 l.length c1, .slice o2 s.length c2, .agg #[.slice ok nk ck, .int .i64 tr]] W fun e w' => e = .returned (.bool true) /\ Below W.heap.size W w' := by
 refine (Q7' K c1 ok nk ck tr W (HP.old W) (fun _ => none) W #[.slice o1 l.length c1, .slice o2 s.length c2, .agg #[.slice ok nk ck, .int .i64 tr]] (TT' W) (fun _ _ _ => rfl) (KW' W) ?_).mono ?_
 ·refine AG'.2 ⟨rfl, AG'.2 ⟨rfl, AG'.2 ⟨⟨[.slice ok nk ck, .int .i64 tr], VRs.vmap [_, _], rfl⟩, rfl⟩⟩⟩
 rintro e w' ⟨y, rfl, N', _, _, r, hv⟩; have hy : y = .bool true := VR_v.1 (AG'.1 hv).1; subst hy; exact ⟨rfl, r.old_below⟩
end Go.Proofs.YtgahllbgipdchaaGreatDoor.Wk
