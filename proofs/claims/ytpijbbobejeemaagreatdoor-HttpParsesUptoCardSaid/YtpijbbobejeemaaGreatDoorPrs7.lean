/- Parts of the proof, merged. -/
import Derived.Test.YtpijbbobejeemaaGreatDoorPrs6
import Derived.Test.YtpijbbobejeemaaGreatDoorPrs2
set_option linter.unusedVariables false
set_option linter.unusedSimpArgs false
set_option maxRecDepth 100000
set_option linter.unusedSectionVars false
namespace Go.Proofs.YtpijbbobejeemaaGreatDoor.Htp
open Go Go.RowKit Eng Kit
noncomputable section
abbrev fFst : Nat := 34
abbrev fLtr : Nat := 64
abbrev fDgt : Nat := 37
def DH' (s : ByteArray) (c : UInt8) (M : List ByteArray) (n : Nat) : List AV → Option (AP AV) := mkC (fun _ => .ret ()) (fun _ => True) (fun _ k => k) (fun _ => [sv s, byv c]) (fun _ => []) (fun _ => .leaf .ret [sB 1000 n] [(1000, rS M)])
def rq00 : AO := rqO nil0 nil0 nilP nilB
def aF1 (i : Nat) : List (Nat × AV) := [(2, .ptr 0 0), (4, sB 1 3), (5, iv (Int.ofNat i))]
def kF1 : List Nat := [0, 1]
def iF1 : List Nat := [2, 3, 4, 5]
def hF1 (a : ByteArray) (x : UInt8) (i : Nat) (b1 b2 r : Bool) : B4' := AB' [(fFst, 7, 3, hv (sv a)), (fFst, 7, 5, hv (.lit true)), (fFst, 9, 2, hv (sv a)), (fFst, 9, 4, h0v (byv x)), (fFst, 9, 6, hv (.lit b1)), (fFst, 9, 10, hv (sv a)), (fFst, 9, 12, h0v (byv x)), (fFst, 9, 13, hv (.lit b2)), (fFst, 9, 14, hv (.lit r)), (fFst, 8, 1, hv (iv (Int.ofNat (i + 1))))]
def oF1 (a b c : ByteArray) : LH := [(0, rq00), (1, rS [a, b, c])]
noncomputable section
abbrev k120' (q0 : UInt8) : Cnd := (f' ((↑q0.toNat : Int) = ↑q0.toNat))
end
theorem UR' (a b c : ByteArray) (x : UInt8) (i : Nat) (F : HP) : AV' [(fLtr, cW x true)] (hF1 a x i false false false) [] default fFst (A4' fFst 7) (tms 0 98 (aF1 i)) (oF1 a b c) kF1 iF1 F = VT.leaf (AX.normal,[AV.ptr 0 0,a',AV.slice 1 0 3 1 (Cp.lo 3),i' (i + 1)],98) [some (AO.cells [s' nil0,s' nil0,e',e'] 64),some (AO.cells [s' a,s' b,s' c] 18)] 1100 (k12'.a ((k22' a).a ((k106' i a).a (k12'.a ((k22' a).a ((k115' i a x).a ((k120' x).a (k18'.a (k12'.a ((k22' a).a ((k115' i a x).a ((f' (Wk (b' (decide (↑x.toNat ≥ Int.ofNat 97))) g')).a (k34'.a ((k6' i).a t')))))))))))))) := by kernel_rfl
theorem g2' (a b c : ByteArray) (x : UInt8) (i : Nat) (F : HP) : AV' [(fLtr, cW x false)] (hF1 a x i true false true) [] default fFst (A4' fFst 7) (tms 0 98 (aF1 i)) (oF1 a b c) kF1 iF1 F = VT.leaf (AX.ret,[AV.ptr 0 0,b' false,AV.slice 1 0 3 1 (Cp.lo 3),i' i],98) [some (AO.cells [s' y0',s' y0',e',e'] 64),some (AO.cells [s' a,s' b,s' c] 18)] 1100 (k12'.a ((k22' a).a ((k106' i a).a (k12'.a ((k22' a).a ((k115' i a x).a ((k120' x).a (k36'.a (k20'.a (k12'.a t')))))))))) := by kernel_rfl
theorem g1' (a b c : ByteArray) (x : UInt8) (i : Nat) (F : HP) : AV' [(fLtr, cW x true)] (hF1 a x i false true true) [] default fFst (A4' fFst 7) (tms 0 98 (aF1 i)) (oF1 a b c) kF1 iF1 F = VT.leaf (AX.ret,[AV.ptr 0 0,b' false,AV.slice 1 0 3 1 (Cp.lo 3),i' i],98) [some (AO.cells [s' y0',s' y0',e',e'] 64),some (AO.cells [s' a,s' b,s' c] 18)] 1100 (k12'.a ((k22' a).a ((k106' i a).a (k12'.a ((k22' a).a ((k115' i a x).a ((k120' x).a (k18'.a (k12'.a ((k22' a).a ((k115' i a x).a ((f' (Wk (b' (decide (↑x.toNat ≥ Int.ofNat 97))) j')).a (k20'.a (k12'.a t')))))))))))))) := by kernel_rfl
theorem g0' (a b c : ByteArray) (i : Nat) (F : HP) : AV' [] (AB' [(fFst, 7, 3, hv (sv a)), (fFst, 7, 5, hv (.lit false))]) [] default fFst (A4' fFst 7) (tms 0 98 (aF1 i)) (oF1 a b c) kF1 iF1 F = VT.leaf (AX.exit 0,[AV.ptr 0 0,a',AV.slice 1 0 3 1 (Cp.lo 3),i' i],98) [some (AO.cells [s' nil0,s' nil0,e',e'] 64),some (AO.cells [s' a,s' b,s' c] 18)] 1100 (k12'.a ((k22' a).a ((k107' i a).a t'))) := by kernel_rfl
def aF2 (i : Nat) : List (Nat × AV) := [(2, .ptr 0 0), (4, sB 1 3), (6, iv (Int.ofNat i))]
def iF2 : List Nat := [2, 3, 4, 6]
def hF2 (b : ByteArray) (x : UInt8) (i : Nat) (b1 b2 r : Bool) : B4' := AB' [(fFst, 12, 3, hv (sv b)), (fFst, 12, 5, hv (.lit true)), (fFst, 14, 2, hv (sv b)), (fFst, 14, 4, h0v (byv x)), (fFst, 14, 5, hv (.lit b1)), (fFst, 14, 9, hv (sv b)), (fFst, 14, 11, h0v (byv x)), (fFst, 14, 12, hv (.lit b2)), (fFst, 14, 13, hv (.lit r)), (fFst, 13, 1, hv (iv (Int.ofNat (i + 1))))]
noncomputable section
abbrev k121' (q0 : UInt8) : Cnd := (f' (Wk (b' (decide (↑q0.toNat < Int.ofNat 33))) g'))
abbrev k122' (q0 : UInt8) : Cnd := (f' (Wk (b' (decide (↑q0.toNat > Int.ofNat 126))) g'))
end
theorem UQ' (a b c : ByteArray) (x : UInt8) (i : Nat) (F : HP) : AV' [] (hF2 b x i false false false) [] default fFst (A4' fFst 12) (tms 0 98 (aF2 i)) (oF1 a b c) kF1 iF2 F = VT.leaf (AX.normal,[AV.ptr 0 0,a',AV.slice 1 0 3 1 (Cp.lo 3),i' (i + 1)],98) [some (AO.cells [s' nil0,s' nil0,e',e'] 64),some (AO.cells [s' a,s' b,s' c] 18)] 1100 (k12'.a ((k22' b).a ((k106' i b).a (k12'.a ((k22' b).a ((k115' i b x).a ((k121' x).a (k12'.a ((k22' b).a ((k115' i b x).a ((k122' x).a (k34'.a ((k6' i).a t'))))))))))))) := by kernel_rfl
theorem fZ' (a b c : ByteArray) (x : UInt8) (i : Nat) (F : HP) : AV' [] (hF2 b x i true false true) [] default fFst (A4' fFst 12) (tms 0 98 (aF2 i)) (oF1 a b c) kF1 iF2 F = VT.leaf (AX.ret,[AV.ptr 0 0,b' false,AV.slice 1 0 3 1 (Cp.lo 3),i' i],98) [some (AO.cells [s' y0',s' y0',e',e'] 64),some (AO.cells [s' a,s' b,s' c] 18)] 1100 (k12'.a ((k22' b).a ((k106' i b).a (k12'.a ((k22' b).a ((k115' i b x).a ((f' (Wk (b' (decide (↑x.toNat < Int.ofNat 33))) j')).a (k20'.a (k12'.a t'))))))))) := by kernel_rfl
noncomputable section
abbrev k123' (q0 : UInt8) : Cnd := (f' (Wk (b' (decide (↑q0.toNat > Int.ofNat 126))) j'))
end
theorem fY' (a b c : ByteArray) (x : UInt8) (i : Nat) (F : HP) : AV' [] (hF2 b x i false true true) [] default fFst (A4' fFst 12) (tms 0 98 (aF2 i)) (oF1 a b c) kF1 iF2 F = VT.leaf (AX.ret,[AV.ptr 0 0,b' false,AV.slice 1 0 3 1 (Cp.lo 3),i' i],98) [some (AO.cells [s' y0',s' y0',e',e'] 64),some (AO.cells [s' a,s' b,s' c] 18)] 1100 (k12'.a ((k22' b).a ((k106' i b).a (k12'.a ((k22' b).a ((k115' i b x).a ((k121' x).a (k12'.a ((k22' b).a ((k115' i b x).a ((k123' x).a (k20'.a (k12'.a t'))))))))))))) := by kernel_rfl
theorem fX' (a b c : ByteArray) (i : Nat) (F : HP) : AV' [] (AB' [(fFst, 12, 3, hv (sv b)), (fFst, 12, 5, hv (.lit false))]) [] default fFst (A4' fFst 12) (tms 0 98 (aF2 i)) (oF1 a b c) kF1 iF2 F = VT.leaf (AX.exit 2,[AV.ptr 0 0,a',AV.slice 1 0 3 1 (Cp.lo 3),i' i],98) [some (AO.cells [s' nil0,s' nil0,e',e'] 64),some (AO.cells [s' a,s' b,s' c] 18)] 1100 (k12'.a ((k22' b).a ((k107' i b).a t'))) := by kernel_rfl
def gF1 : List AV → AP (Nat × Nat) := fun tmps => match getL tmps 2, getL tmps 4 with
 | .ptr a _, .slice b _ _ _ _ => .ret (a, b)
 | _, _ => .fail "first"
def lF1 (a b c : ByteArray) : List AV → AP (AX × List AV) := mkL gF1 (fun _ => True) nm01 (fun _ => tms 0 98 (aF1 0)) (fun _ => oF1 a b c) (fun _ => .leaf (.exit 0) (tms 0 98 [(2, .ptr 0 0), (4, sB 1 3)]) (oF1 a b c))
def lF1x (a b c : ByteArray) : List AV → AP (AX × List AV) := mkL gF1 (fun _ => True) nm01 (fun _ => tms 0 98 (aF1 0)) (fun _ => oF1 a b c) (fun _ => .leaf .ret (tms 0 98 [(2, .ptr 0 0), (3, bv false)]) [(0, rq00)])
def lF2 (a b c : ByteArray) : List AV → AP (AX × List AV) := mkL gF1 (fun _ => True) nm01 (fun _ => tms 0 98 (aF2 0)) (fun _ => oF1 a b c) (fun _ => .leaf (.exit 2) (tms 0 98 [(2, .ptr 0 0), (4, sB 1 3)]) (oF1 a b c))
def lF2x (a b c : ByteArray) : List AV → AP (AX × List AV) := mkL gF1 (fun _ => True) nm01 (fun _ => tms 0 98 (aF2 0)) (fun _ => oF1 a b c) (fun _ => .leaf .ret (tms 0 98 [(2, .ptr 0 0), (3, bv false)]) [(0, rq00)])
def hFi (a b c : ByteArray) (x : UInt8) (n3 b1 b2 b3 b4 r s : Bool) : B4' := AB' [(fFst, 2, 2, hv (.lit n3)), (fFst, 4, 2, hv (sv a)), (fFst, 4, 4, hv (.lit b1)), (fFst, 4, 8, hv (sv a)), (fFst, 4, 10, hv (.lit b2)), (fFst, 4, 15, hv (sv b)), (fFst, 4, 17, hv (.lit b3)), (fFst, 4, 22, hv (sv c)), (fFst, 4, 23, hv (.lit b4)), (fFst, 4, 24, hv (.lit r)), (fFst, 16, 2, hv (sv a)), (fFst, 16, 5, hv (sv b)), (fFst, 16, 9, hv (sv b)), (fFst, 16, 10, h0v (byv x)), (fFst, 16, 11, hv (bv s))]
noncomputable section
abbrev k124' (q0 : ByteArray) : Cnd := ((p' True).a (f' (VW [s' q0,AV.v (Value.int IntKind.u8 (Int.ofNat 32))] [s' q0,AV.v (Value.int IntKind.u8 (Int.ofNat 32))])))
end
theorem fJ' (s : ByteArray) (M : List ByteArray) (n : Nat) (F : HP) : wRun [(fRCt, DH' s 32 M n)] (hFi nil0 nil0 nil0 0 true false false false false true false) [] default fFst [sv s] [] [] F = VT.leaf (AV.tuple [AV.agg [s' y0',s' y0',e',e'],b' false]) [] 1102 ((k124' s).a ((k19' n).a (k12'.a (k60'.a (k61'.a t'))))) := by kernel_rfl
noncomputable section
abbrev k125' (q0 : ByteArray) : Cnd := (f' (Wk (b' (decide (↑q0.size < Int.ofNat 1))) j'))
end
theorem fP' (s a b c : ByteArray) (F : HP) : wRun [(fRCt, DH' s 32 [a, b, c] 3)] (hFi a b c 0 false true false false false true false) [] default fFst [sv s] [] [] F = VT.leaf (AV.tuple [AV.agg [s' y0',s' y0',e',e'],b' false]) [] 1102 ((k124' s).a (k18'.a (k12'.a ((k22' a).a ((k125' a).a (k20'.a (k12'.a (k60'.a (k61'.a t'))))))))) := by kernel_rfl
noncomputable section
abbrev k126' (q0 : ByteArray) : Cnd := (f' (Wk (b' (decide (↑q0.size < Int.ofNat 1))) g'))
end
theorem fO' (s a b c : ByteArray) (F : HP) : wRun [(fRCt, DH' s 32 [a, b, c] 3)] (hFi a b c 0 false false true false false true false) [] default fFst [sv s] [] [] F = VT.leaf (AV.tuple [AV.agg [s' y0',s' y0',e',e'],b' false]) [] 1102 ((k124' s).a (k18'.a (k12'.a ((k22' a).a ((k126' a).a (k12'.a ((k22' a).a ((k25' a).a (k20'.a (k12'.a (k60'.a (k61'.a t')))))))))))) := by kernel_rfl
theorem fN' (s a b c : ByteArray) (F : HP) : wRun [(fRCt, DH' s 32 [a, b, c] 3)] (hFi a b c 0 false false false true false true false) [] default fFst [sv s] [] [] F = VT.leaf (AV.tuple [AV.agg [s' y0',s' y0',e',e'],b' false]) [] 1102 ((k124' s).a (k18'.a (k12'.a ((k22' a).a ((k126' a).a (k12'.a ((k22' a).a ((k26' a).a (k12'.a ((k22' b).a ((k125' b).a (k20'.a (k12'.a (k60'.a (k61'.a t'))))))))))))))) := by kernel_rfl
theorem fM' (s a b c : ByteArray) (F : HP) : wRun [(fRCt, DH' s 32 [a, b, c] 3)] (hFi a b c 0 false false false false true true false) [] default fFst [sv s] [] [] F = VT.leaf (AV.tuple [AV.agg [s' y0',s' y0',e',e'],b' false]) [] 1102 ((k124' s).a (k18'.a (k12'.a ((k22' a).a ((k126' a).a (k12'.a ((k22' a).a ((k26' a).a (k12'.a ((k22' b).a ((k126' b).a (k12'.a ((k22' c).a ((k32' c).a (k20'.a (k12'.a (k60'.a (k61'.a t')))))))))))))))))) := by kernel_rfl
noncomputable section
abbrev k127' (q0 : ByteArray) (q1 q2 : Nat) (q3 q4 q5 : ByteArray) : Cnd := (p' (VW (s' q0::u'::AV.ptr q1 0::b' false::AV.slice q2 0 3 1 (Cp.lo 3)::i' 0::u'::s' q0::AV.slice q2 0 3 1 (Cp.lo 3)::AV.slice q2 0 3 1 (Cp.lo 3)::i' 3::g'::u'::AV.slice q2 0 3 1 (Cp.lo 3)::AV.ptr q2 0::s' q3::z' ↑q3.size::g'::g'::AV.slice q2 0 3 1 (Cp.lo 3)::AV.ptr q2 0::s' q3::z' ↑q3.size::g'::g'::g'::AV.slice q2 0 3 1 (Cp.lo 3)::AV.ptr q2 1::s' q4::z' ↑q4.size::g'::g'::g'::AV.slice q2 0 3 1 (Cp.lo 3)::AV.ptr q2 2::s' q5::g'::g'::ru16 (ru16 (ru16 (ru8 (ru4 ([])))))) (a'::a'::AV.ptr q1 0::a'::AV.slice q2 0 3 1 (Cp.lo 3)::i' 0::ra16 (ra16 (ra16 (ra16 (ra16 (ra8 (ra4 ([]))))))))))
abbrev k128' : Cnd := (p' (OW (AO.cells [s' y0',s' y0',e',e'] 64) (AO.cells [s' nil0,s' nil0,e',e'] 64)))
abbrev k129' (q0 q1 q2 : ByteArray) : Cnd := (p' (OW (AO.cells [s' q0,s' q1,s' q2] 18) (AO.cells [s' q0,s' q1,s' q2] 18)))
end
theorem fL' (s a b c : ByteArray) (F : HP) : wRun [(fRCt, DH' s 32 [a, b, c] 3)] (hFi a b c 0 false false false false false false false) [(fFst, 7, A4' fFst 7, lF1x a b c)] default fFst [sv s] [] [] F = VT.leaf (AV.tuple [AV.agg [s' nil0,s' nil0,e',e'],b' false]) [] 1102 ((k124' s).a (k18'.a (k12'.a ((k22' a).a ((k126' a).a (k12'.a ((k22' a).a ((k26' a).a (k12'.a ((k22' b).a ((k126' b).a (k12'.a ((k22' c).a ((k33' c).a (k34'.a ((p' ((fFst,7,A4' fFst 7,lF1x a b c).snd.snd.fst = (fFst,7,A4' fFst 7,lF1x a b c).snd.snd.fst)).a (k15'.a ((k127' s 1100 1101 a b c).a (k128'.a ((k129' a b c).a (k60'.a (k83'.a t')))))))))))))))))))))) := by kernel_rfl
noncomputable section
abbrev k130' (q0 q1 : Nat) : Cnd := (p' (VW (a'::a'::AV.ptr q0 0::a'::AV.slice q1 0 3 1 (Cp.lo 3)::a'::i' 0::ra16 (ra16 (ra16 (ra16 (ra16 (ra8 (a'::a'::a'::[]))))))) (a'::a'::AV.ptr q0 0::a'::AV.slice q1 0 3 1 (Cp.lo 3)::a'::i' 0::ra16 (ra16 (ra16 (ra16 (ra16 (ra8 (a'::a'::a'::[])))))))))
abbrev k131' : Cnd := (p' (OW (AO.cells [s' nil0,s' nil0,e',e'] 64) (AO.cells [s' nil0,s' nil0,e',e'] 64)))
end
theorem fK' (s a b c : ByteArray) (F : HP) : wRun [(fRCt, DH' s 32 [a, b, c] 3)] (hFi a b c 0 false false false false false false false) [(fFst, 7, A4' fFst 7, lF1 a b c), (fFst, 12, A4' fFst 12, lF2x a b c)] default fFst [sv s] [] [] F = VT.leaf (AV.tuple [AV.agg [s' nil0,s' nil0,e',e'],b' false]) [] 1102 ((k124' s).a (k18'.a (k12'.a ((k22' a).a ((k126' a).a (k12'.a ((k22' a).a ((k26' a).a (k12'.a ((k22' b).a ((k126' b).a (k12'.a ((k22' c).a ((k33' c).a (k34'.a ((p' ((fFst,7,A4' fFst 7,lF1 a b c).snd.snd.fst = (fFst,7,A4' fFst 7,lF1 a b c).snd.snd.fst)).a (k15'.a ((k127' s 1100 1101 a b c).a (k128'.a ((k129' a b c).a ((p' ((fFst,12,A4' fFst 12,lF2x a b c).snd.snd.fst = (fFst,12,A4' fFst 12,lF2x a b c).snd.snd.fst)).a (k15'.a ((k130' 1100 1101).a (k131'.a ((k129' a b c).a (k60'.a (k83'.a t'))))))))))))))))))))))))))) := by kernel_rfl
theorem fI' (s a b c : ByteArray) (x : UInt8) (q : Bool) (F : HP) : wRun [(fRCt, DH' s 32 [a, b, c] 3)] (hFi a b c x false false false false false false q) [(fFst, 7, A4' fFst 7, lF1 a b c), (fFst, 12, A4' fFst 12, lF2 a b c)] default fFst [sv s] [] [] F = VT.leaf (AV.tuple [AV.agg [s' a,s' b,e',e'],b' q]) [] 1102 ((k124' s).a (k18'.a (k12'.a ((k22' a).a ((k126' a).a (k12'.a ((k22' a).a ((k26' a).a (k12'.a ((k22' b).a ((k126' b).a (k12'.a ((k22' c).a ((k33' c).a (k34'.a ((p' ((fFst,7,A4' fFst 7,lF1 a b c).snd.snd.fst = (fFst,7,A4' fFst 7,lF1 a b c).snd.snd.fst)).a (k15'.a ((k127' s 1100 1101 a b c).a (k128'.a ((k129' a b c).a ((p' ((fFst,12,A4' fFst 12,lF2 a b c).snd.snd.fst = (fFst,12,A4' fFst 12,lF2 a b c).snd.snd.fst)).a (k15'.a ((k130' 1100 1101).a (k131'.a ((k129' a b c).a (k12'.a ((k22' a).a (k12'.a ((k22' b).a (k12'.a ((k22' b).a (((p' (0 < b.size)).a (f' (Wk (AV.v (Value.int IntKind.u8 ↑(b.data.toList.getD 0 0).toNat)) (AV.v (Value.int IntKind.u8 ↑x.toNat))))).a ((f' (Wk (b' (↑x.toNat == Int.ofNat 47)) (b' q))).a (k12'.a (k60'.a (f' ([s' a,s' b,e',e'] = [s' a,s' b,e',e']))))))))))))))))))))))))))))))))))))) := by kernel_rfl
end
noncomputable section
abbrev fFld : Nat := 35
abbrev tPair : TypeId := 2 * 39
def prO (k v : ByteArray) : AO := .cells [sv k, sv v] tPair
def oG (A : List UInt8) : LH := [(0, prO nil0 nil0), (1, prO nil0 nil0), (1000, rB A)]
def aG1 (s : ByteArray) (k i : Nat) : List (Nat × AV) := [(0, sv s), (2, .ptr 0 0), (4, .ptr 1 0), (5, sB 1000 k), (6, iv (Int.ofNat i))]
def kG : List Nat := [0, 1, 1000, 1100, 1101]
def iG1 : List Nat := [0, 2, 3, 4, 5, 6]
def hG1 (x y : UInt8) (i : Nat) (n1 n2 n3 bad u1 u2 up : Bool) : B4' := AB' [(fFld, 4, 3, hv (.lit true)), (fFld, 4, 7, h0v (byv x)), (fFld, 4, 8, hv (.lit true)), (fFld, 5, 2, h0v (byv x)), (fFld, 6, 2, hv (.lit n1)), (fFld, 6, 6, hv (.lit n2)), (fFld, 6, 10, hv (.lit n3)), (fFld, 6, 11, hv (.lit bad)), (fFld, 8, 1, hv (.lit u1)), (fFld, 8, 4, hv (.lit u2)), (fFld, 8, 5, hv (.lit up)), (fFld, 9, 1, hv (byv y)), (fFld, 11, 1, hv (iv (Int.ofNat (i + 1))))]
noncomputable section
abbrev k132' (q0 : UInt8) : Cnd := (f' (Wk (b' (↑q0.toNat != Int.ofNat 58)) j'))
abbrev k133' (q0 : UInt8) : Cnd := (f' (Wk (b' (decide (Int.ofNat 65 ≤ ↑q0.toNat))) j'))
abbrev k134' (q0 : Nat) (q1 : List UInt8) : Cnd := ((p' (true = true)).a ((p' (true = true)).a ((p' (true = true)).a ((p' (true = true)).a ((p' ((0 + q0 * 1).ble (rowV encB q1).length = true)).a ((p' (((q0 + 1) * 1).ble 140737488355328 = true)).a ((p' ((q0 + 1).ble 9223372036854775807 = true)).a (f' ((List.take (q0 * 1) (List.drop 0 (rowV encB q1))).length.beq (q0 * 1) = true)))))))))
end
theorem UL' (s : ByteArray) (A : List UInt8) (x y : UInt8) (k i : Nat) (F : HP) : AV' [(fLtr, cW x true), (fDgt, cW x false)] (hG1 x y i false false false false true true true) [] default fFld (A4' fFld 4) (tms 0 133 (aG1 s k i)) (oG A) kG iG1 F = VT.leaf (AX.normal,[s' s,AV.ptr 0 0,a',AV.ptr 1 0,AV.slice 1101 0 (k + 1) 1 (Cp.lo (k + 1)),i' (i + 1)],133) [some (AO.cells [s' nil0,s' nil0] 78),some (AO.cells [s' nil0,s' nil0] 78),none,some (AO.cells [AV.v (Value.int IntKind.u8 ↑y.toNat)] 10),some (AO.cells (List.take (k * 1) (List.drop 0 (rowV encB A)) ++ [AV.v (Value.int IntKind.u8 ↑y.toNat)]) 10)] 1102 ((k106' i s).a ((k115' i s x).a ((k132' x).a ((k115' i s x).a ((k120' x).a (k18'.a (k34'.a ((k133' x).a ((f' (Wk (b' (decide (↑x.toNat ≤ Int.ofNat 90))) j')).a (k20'.a ((f' (Wk (AV.v (Value.int IntKind.u8 (IntKind.u8.wrap (↑x.toNat + Int.ofNat 32)))) (AV.v (Value.int IntKind.u8 ↑y.toNat)))).a ((k134' k A).a ((k6' i).a t'))))))))))))) := by kernel_rfl
theorem UM' (s : ByteArray) (A : List UInt8) (x y : UInt8) (k i : Nat) (F : HP) : AV' [(fLtr, cW x true), (fDgt, cW x false)] (hG1 x y i false false false false true false false) [] default fFld (A4' fFld 4) (tms 0 133 (aG1 s k i)) (oG A) kG iG1 F = VT.leaf (AX.normal,[s' s,AV.ptr 0 0,a',AV.ptr 1 0,AV.slice 1101 0 (k + 1) 1 (Cp.lo (k + 1)),i' (i + 1)],133) [some (AO.cells [s' nil0,s' nil0] 78),some (AO.cells [s' nil0,s' nil0] 78),none,some (AO.cells [AV.v (Value.int IntKind.u8 ↑x.toNat)] 10),some (AO.cells (List.take (k * 1) (List.drop 0 (rowV encB A)) ++ [AV.v (Value.int IntKind.u8 ↑x.toNat)]) 10)] 1102 ((k106' i s).a ((k115' i s x).a ((k132' x).a ((k115' i s x).a ((k120' x).a (k18'.a (k34'.a ((k133' x).a ((f' (Wk (b' (decide (↑x.toNat ≤ Int.ofNat 90))) g')).a (k34'.a ((k134' k A).a ((k6' i).a t')))))))))))) := by kernel_rfl
noncomputable section
abbrev k135' (q0 : UInt8) : Cnd := (f' (Wk (b' (decide (Int.ofNat 65 ≤ ↑q0.toNat))) g'))
end
theorem UO' (s : ByteArray) (A : List UInt8) (x y : UInt8) (k i : Nat) (F : HP) : AV' [(fLtr, cW x false), (fDgt, cW x true)] (hG1 x y i true false false false false false false) [] default fFld (A4' fFld 4) (tms 0 133 (aG1 s k i)) (oG A) kG iG1 F = VT.leaf (AX.normal,[s' s,AV.ptr 0 0,a',AV.ptr 1 0,AV.slice 1101 0 (k + 1) 1 (Cp.lo (k + 1)),i' (i + 1)],133) [some (AO.cells [s' nil0,s' nil0] 78),some (AO.cells [s' nil0,s' nil0] 78),none,some (AO.cells [AV.v (Value.int IntKind.u8 ↑x.toNat)] 10),some (AO.cells (List.take (k * 1) (List.drop 0 (rowV encB A)) ++ [AV.v (Value.int IntKind.u8 ↑x.toNat)]) 10)] 1102 ((k106' i s).a ((k115' i s x).a ((k132' x).a ((k115' i s x).a ((k120' x).a (k36'.a ((k120' x).a (k18'.a (k34'.a ((k135' x).a (k34'.a ((k134' k A).a ((k6' i).a t'))))))))))))) := by kernel_rfl
theorem UN' (s : ByteArray) (A : List UInt8) (x y : UInt8) (k i : Nat) (F : HP) : AV' [(fLtr, cW x false), (fDgt, cW x false)] (hG1 x y i true true false false false false false) [] default fFld (A4' fFld 4) (tms 0 133 (aG1 s k i)) (oG A) kG iG1 F = VT.leaf (AX.normal,[s' s,AV.ptr 0 0,a',AV.ptr 1 0,AV.slice 1101 0 (k + 1) 1 (Cp.lo (k + 1)),i' (i + 1)],133) [some (AO.cells [s' nil0,s' nil0] 78),some (AO.cells [s' nil0,s' nil0] 78),none,some (AO.cells [AV.v (Value.int IntKind.u8 ↑x.toNat)] 10),some (AO.cells (List.take (k * 1) (List.drop 0 (rowV encB A)) ++ [AV.v (Value.int IntKind.u8 ↑x.toNat)]) 10)] 1102 ((k106' i s).a ((k115' i s x).a ((k132' x).a ((k115' i s x).a ((k120' x).a (k36'.a ((k120' x).a (k36'.a ((f' (Wk (b' (↑x.toNat != Int.ofNat 45)) g')).a (k34'.a ((k135' x).a (k34'.a ((k134' k A).a ((k6' i).a t')))))))))))))) := by kernel_rfl
noncomputable section
abbrev k136' : Cnd := ((p' (true = true)).a (f' ([s' nil0,s' nil0] = [s' nil0,s' nil0])))
end
theorem fB' (s : ByteArray) (A : List UInt8) (x y : UInt8) (k i : Nat) (F : HP) : AV' [(fLtr, cW x false), (fDgt, cW x false)] (hG1 x y i true true true true false false false) [] default fFld (A4' fFld 4) (tms 0 133 (aG1 s k i)) (oG A) kG iG1 F = VT.leaf (AX.ret,[s' s,AV.ptr 0 0,b' false,AV.ptr 1 0,AV.slice 1000 0 k 1 (Cp.lo k),i' i],133) [some (AO.cells [s' nil0,s' nil0] 78),some (AO.cells [s' nil0,s' nil0] 78),some (AO.cells (rowV encB A) 10),none,none] 1100 ((k106' i s).a ((k115' i s x).a ((k132' x).a ((k115' i s x).a ((k120' x).a (k36'.a ((k120' x).a (k36'.a ((f' (Wk (b' (↑x.toNat != Int.ofNat 45)) j')).a (k20'.a (k136'.a (k12'.a t')))))))))))) := by kernel_rfl
theorem fC' (s : ByteArray) (A : List UInt8) (k i : Nat) (F : HP) : AV' [] (AB' [(fFld, 4, 3, hv (.lit false))]) [] default fFld (A4' fFld 4) (tms 0 133 (aG1 s k i)) (oG A) kG iG1 F = VT.leaf (AX.exit 0,[s' s,AV.ptr 0 0,a',AV.ptr 1 0,AV.slice 1000 0 k 1 (Cp.lo k),i' i],133) [some (AO.cells [s' nil0,s' nil0] 78),some (AO.cells [s' nil0,s' nil0] 78),some (AO.cells (rowV encB A) 10),none,none] 1100 ((k107' i s).a t') := by kernel_rfl
theorem fD' (s : ByteArray) (A : List UInt8) (x : UInt8) (k i : Nat) (F : HP) : AV' [] (AB' [(fFld, 4, 3, hv (.lit true)), (fFld, 4, 7, h0v (byv x)), (fFld, 4, 8, hv (.lit false))]) [] default fFld (A4' fFld 4) (tms 0 133 (aG1 s k i)) (oG A) kG iG1 F = VT.leaf (AX.exit 0,[s' s,AV.ptr 0 0,a',AV.ptr 1 0,AV.slice 1000 0 k 1 (Cp.lo k),i' i],133) [some (AO.cells [s' nil0,s' nil0] 78),some (AO.cells [s' nil0,s' nil0] 78),some (AO.cells (rowV encB A) 10),none,none] 1100 ((k106' i s).a ((k115' i s x).a ((f' (Wk (b' (↑x.toNat != Int.ofNat 58)) g')).a t'))) := by kernel_rfl
def gG : List AV → AP (Nat × Nat × Nat) := fun tmps => match getL tmps 2, getL tmps 4, getL tmps 5 with
 | .ptr a _, .ptr b _, .slice c _ _ _ _ => .ret (a, b, c)
 | _, _, _ => .fail "field"
def nmG (p : Nat × Nat × Nat) : Nat → Nat := fun k => match Nat.beq k 0 with
 | true => p.1
 | false => match Nat.beq k 1 with
  | true => p.2.1
  | false => match Nat.beq k 1000 with
   | true => p.2.2
   | false => k
def zG (s : ByteArray) (k i : Nat) : List (Nat × AV) := [(0, sv s), (2, .ptr 0 0), (4, .ptr 1 0), (5, sB 1000 k), (6, iv (Int.ofNat i))]
def lG1 (s : ByteArray) (A : List UInt8) (k i : Nat) : List AV → AP (AX × List AV) := mkL gG (fun _ => True) nmG (fun _ => tms 0 133 (aG1 s 0 0)) (fun _ => oG []) (fun _ => .leaf (.exit 0) (tms 0 133 (zG s k i)) (oG A))
def lG1x (s : ByteArray) : List AV → AP (AX × List AV) := mkL gG (fun _ => True) nmG (fun _ => tms 0 133 (aG1 s 0 0)) (fun _ => oG []) (fun _ => .leaf .ret (tms 0 133 [(2, .ptr 0 0), (3, bv false)]) [(0, prO nil0 nil0)])
def aG2 (s : ByteArray) (k f t i : Nat) : List (Nat × AV) := [(0, sv s), (2, .ptr 0 0), (4, .ptr 1 0), (5, sB 1000 k), (8, iv (Int.ofNat f)), (9, iv (Int.ofNat t)), (10, iv (Int.ofNat i))]
def iG2 : List Nat := [0, 2, 3, 4, 5, 8, 9, 10]
def hG2 (x : UInt8) (i : Nat) (b1 b2 b3 r : Bool) : B4' := AB' [(fFld, 16, 2, hv (.lit true)), (fFld, 18, 2, h0v (byv x)), (fFld, 18, 3, hv (.lit b1)), (fFld, 18, 7, h0v (byv x)), (fFld, 18, 8, hv (.lit b2)), (fFld, 18, 12, h0v (byv x)), (fFld, 18, 13, hv (.lit b3)), (fFld, 18, 15, hv (.lit r)), (fFld, 17, 1, hv (iv (Int.ofNat (i + 1))))]
theorem UJ' (s : ByteArray) (A : List UInt8) (x : UInt8) (k f t i : Nat) (F : HP) : AV' [] (hG2 x i false false false false) [] default fFld (A4' fFld 16) (tms 0 133 (aG2 s k f t i)) (oG A) kG iG2 F = VT.leaf (AX.normal,[s' s,AV.ptr 0 0,a',AV.ptr 1 0,AV.slice 1000 0 k 1 (Cp.lo k),i' f,i' t,i' (i + 1)],133) [some (AO.cells [s' nil0,s' nil0] 78),some (AO.cells [s' nil0,s' nil0] 78),some (AO.cells (rowV encB A) 10),none,none] 1100 ((k1' i t).a ((k115' i s x).a ((f' (Wk (b' (↑x.toNat != Int.ofNat 9)) g')).a (k34'.a ((k6' i).a t'))))) := by kernel_rfl
noncomputable section
abbrev k137' (q0 : UInt8) : Cnd := (f' (Wk (b' (↑q0.toNat != Int.ofNat 9)) j'))
abbrev k138' (q0 : UInt8) : Cnd := (f' (Wk (b' (decide (↑q0.toNat < Int.ofNat 32))) g'))
end
theorem UK' (s : ByteArray) (A : List UInt8) (x : UInt8) (k f t i : Nat) (F : HP) : AV' [] (hG2 x i true false false false) [] default fFld (A4' fFld 16) (tms 0 133 (aG2 s k f t i)) (oG A) kG iG2 F = VT.leaf (AX.normal,[s' s,AV.ptr 0 0,a',AV.ptr 1 0,AV.slice 1000 0 k 1 (Cp.lo k),i' f,i' t,i' (i + 1)],133) [some (AO.cells [s' nil0,s' nil0] 78),some (AO.cells [s' nil0,s' nil0] 78),some (AO.cells (rowV encB A) 10),none,none] 1100 ((k1' i t).a ((k115' i s x).a ((k137' x).a ((k115' i s x).a ((k138' x).a ((k115' i s x).a ((k122' x).a (k34'.a ((k6' i).a t'))))))))) := by kernel_rfl
theorem fA' (s : ByteArray) (A : List UInt8) (x : UInt8) (k f t i : Nat) (F : HP) : AV' [] (hG2 x i true true false true) [] default fFld (A4' fFld 16) (tms 0 133 (aG2 s k f t i)) (oG A) kG iG2 F = VT.leaf (AX.ret,[s' s,AV.ptr 0 0,b' false,AV.ptr 1 0,AV.slice 1000 0 k 1 (Cp.lo k),i' f,i' t,i' i],133) [some (AO.cells [s' nil0,s' nil0] 78),some (AO.cells [s' nil0,s' nil0] 78),some (AO.cells (rowV encB A) 10),none,none] 1100 ((k1' i t).a ((k115' i s x).a ((k137' x).a ((k115' i s x).a ((f' (Wk (b' (decide (↑x.toNat < Int.ofNat 32))) j')).a (k20'.a (k136'.a (k12'.a t')))))))) := by kernel_rfl
theorem f9' (s : ByteArray) (A : List UInt8) (x : UInt8) (k f t i : Nat) (F : HP) : AV' [] (hG2 x i true false true true) [] default fFld (A4' fFld 16) (tms 0 133 (aG2 s k f t i)) (oG A) kG iG2 F = VT.leaf (AX.ret,[s' s,AV.ptr 0 0,b' false,AV.ptr 1 0,AV.slice 1000 0 k 1 (Cp.lo k),i' f,i' t,i' i],133) [some (AO.cells [s' nil0,s' nil0] 78),some (AO.cells [s' nil0,s' nil0] 78),some (AO.cells (rowV encB A) 10),none,none] 1100 ((k1' i t).a ((k115' i s x).a ((k137' x).a ((k115' i s x).a ((k138' x).a ((k115' i s x).a ((k123' x).a (k20'.a (k136'.a (k12'.a t')))))))))) := by kernel_rfl
theorem f8' (s : ByteArray) (A : List UInt8) (k f t i : Nat) (F : HP) : AV' [] (AB' [(fFld, 16, 2, hv (.lit false))]) [] default fFld (A4' fFld 16) (tms 0 133 (aG2 s k f t i)) (oG A) kG iG2 F = VT.leaf (AX.exit 2,[s' s,AV.ptr 0 0,a',AV.ptr 1 0,AV.slice 1000 0 k 1 (Cp.lo k),i' f,i' t,i' i],133) [some (AO.cells [s' nil0,s' nil0] 78),some (AO.cells [s' nil0,s' nil0] 78),some (AO.cells (rowV encB A) 10),none,none] 1100 ((k7' i t).a t') := by kernel_rfl
def aG3 (s : ByteArray) (k f t : Nat) : List (Nat × AV) := [(0, sv s), (2, .ptr 0 0), (4, .ptr 1 0), (5, sB 1000 k), (8, iv (Int.ofNat f)), (9, iv (Int.ofNat t))]
def iG3 : List Nat := [0, 2, 3, 4, 5, 8, 9]
def lG2 (s : ByteArray) (A : List UInt8) (k f t : Nat) : List AV → AP (AX × List AV) := mkL gG (fun _ => True) nmG (fun _ => tms 0 133 (aG2 s k f t f)) (fun _ => oG A) (fun _ => .leaf (.exit 2) (tms 0 133 (aG3 s k f t)) (oG A))
def lG2x (s : ByteArray) (A : List UInt8) (k f t : Nat) : List AV → AP (AX × List AV) := mkL gG (fun _ => True) nmG (fun _ => tms 0 133 (aG2 s k f t f)) (fun _ => oG A) (fun _ => .leaf .ret (tms 0 133 [(2, .ptr 0 0), (3, bv false)]) [(0, prO nil0 nil0)])
def hG3 (x : UInt8) (f : Nat) (b1 b2 r : Bool) : B4' := AB' [(fFld, 20, 2, hv (.lit true)), (fFld, 20, 6, h0v (byv x)), (fFld, 20, 7, hv (.lit b1)), (fFld, 20, 11, h0v (byv x)), (fFld, 20, 12, hv (.lit b2)), (fFld, 20, 14, hv (.lit r)), (fFld, 21, 1, hv (iv (Int.ofNat (f + 1))))]
noncomputable section
abbrev k139' (q0 : UInt8) : Cnd := (f' (Wk (b' (↑q0.toNat == Int.ofNat 32)) j'))
end
theorem f5' (s : ByteArray) (A : List UInt8) (x : UInt8) (k f t : Nat) (F : HP) : AV' [] (hG3 x f true false true) [] default fFld (A4' fFld 20) (tms 0 133 (aG3 s k f t)) (oG A) kG iG3 F = VT.leaf (AX.normal,[s' s,AV.ptr 0 0,a',AV.ptr 1 0,AV.slice 1000 0 k 1 (Cp.lo k),i' (f + 1),i' t],133) [some (AO.cells [s' nil0,s' nil0] 78),some (AO.cells [s' nil0,s' nil0] 78),some (AO.cells (rowV encB A) 10),none,none] 1100 ((k1' f t).a ((k115' f s x).a ((k139' x).a (k20'.a ((k6' f).a t'))))) := by kernel_rfl
noncomputable section
abbrev k140' (q0 : UInt8) : Cnd := (f' (Wk (b' (↑q0.toNat == Int.ofNat 32)) g'))
abbrev k141' (q0 : UInt8) : Cnd := (f' (Wk (b' (↑q0.toNat == Int.ofNat 9)) j'))
end
theorem f4' (s : ByteArray) (A : List UInt8) (x : UInt8) (k f t : Nat) (F : HP) : AV' [] (hG3 x f false true true) [] default fFld (A4' fFld 20) (tms 0 133 (aG3 s k f t)) (oG A) kG iG3 F = VT.leaf (AX.normal,[s' s,AV.ptr 0 0,a',AV.ptr 1 0,AV.slice 1000 0 k 1 (Cp.lo k),i' (f + 1),i' t],133) [some (AO.cells [s' nil0,s' nil0] 78),some (AO.cells [s' nil0,s' nil0] 78),some (AO.cells (rowV encB A) 10),none,none] 1100 ((k1' f t).a ((k115' f s x).a ((k140' x).a ((k115' f s x).a ((k141' x).a (k20'.a ((k6' f).a t'))))))) := by kernel_rfl
noncomputable section
abbrev k142' (q0 : UInt8) : Cnd := (f' (Wk (b' (↑q0.toNat == Int.ofNat 9)) g'))
end
theorem f6' (s : ByteArray) (A : List UInt8) (x : UInt8) (k f t : Nat) (F : HP) : AV' [] (hG3 x f false false false) [] default fFld (A4' fFld 20) (tms 0 133 (aG3 s k f t)) (oG A) kG iG3 F = VT.leaf (AX.exit 4,[s' s,AV.ptr 0 0,a',AV.ptr 1 0,AV.slice 1000 0 k 1 (Cp.lo k),i' f,i' t],133) [some (AO.cells [s' nil0,s' nil0] 78),some (AO.cells [s' nil0,s' nil0] 78),some (AO.cells (rowV encB A) 10),none,none] 1100 ((k1' f t).a ((k115' f s x).a ((k140' x).a ((k115' f s x).a ((k142' x).a (k34'.a t')))))) := by kernel_rfl
theorem f7' (s : ByteArray) (A : List UInt8) (k f t : Nat) (F : HP) : AV' [] (AB' [(fFld, 20, 2, hv (.lit false))]) [] default fFld (A4' fFld 20) (tms 0 133 (aG3 s k f t)) (oG A) kG iG3 F = VT.leaf (AX.exit 4,[s' s,AV.ptr 0 0,a',AV.ptr 1 0,AV.slice 1000 0 k 1 (Cp.lo k),i' f,i' t],133) [some (AO.cells [s' nil0,s' nil0] 78),some (AO.cells [s' nil0,s' nil0] 78),some (AO.cells (rowV encB A) 10),none,none] 1100 ((k7' f t).a t') := by kernel_rfl
def lG3 (s : ByteArray) (A : List UInt8) (k f t g : Nat) : List AV → AP (AX × List AV) := mkL gG (fun _ => True) nmG (fun _ => tms 0 133 (aG3 s k f t)) (fun _ => oG A) (fun _ => .leaf (.exit 4) (tms 0 133 (aG3 s k g t)) (oG A))
def hG4 (x : UInt8) (t : Nat) (b1 b2 r : Bool) : B4' := AB' [(fFld, 22, 2, hv (.lit true)), (fFld, 22, 6, hv (iv (Int.ofNat t))), (fFld, 22, 7, h0v (byv x)), (fFld, 22, 8, hv (.lit b1)), (fFld, 22, 12, hv (iv (Int.ofNat t))), (fFld, 22, 13, h0v (byv x)), (fFld, 22, 14, hv (.lit b2)), (fFld, 22, 16, hv (.lit r)), (fFld, 23, 1, hv (iv (Int.ofNat t)))]
noncomputable section
abbrev k143' (q0 q1 : Nat) : Cnd := (f' (Wk (b' (decide (Int.ofNat q0 < Int.ofNat (q1 + 1)))) j'))
abbrev k144' (q0 : Nat) : Cnd := (f' (Wk (z' (IntKind.i64.wrap (Int.ofNat (q0 + 1) - Int.ofNat 1))) (i' q0)))
end
theorem f1' (s : ByteArray) (A : List UInt8) (x : UInt8) (k f t : Nat) (F : HP) : AV' [] (hG4 x t true false true) [] default fFld (A4' fFld 22) (tms 0 133 (aG3 s k f (t + 1))) (oG A) kG iG3 F = VT.leaf (AX.normal,[s' s,AV.ptr 0 0,a',AV.ptr 1 0,AV.slice 1000 0 k 1 (Cp.lo k),i' f,i' t],133) [some (AO.cells [s' nil0,s' nil0] 78),some (AO.cells [s' nil0,s' nil0] 78),some (AO.cells (rowV encB A) 10),none,none] 1100 ((k143' f t).a ((k144' t).a ((k115' t s x).a ((k139' x).a (k20'.a ((k144' t).a t')))))) := by kernel_rfl
theorem f0' (s : ByteArray) (A : List UInt8) (x : UInt8) (k f t : Nat) (F : HP) : AV' [] (hG4 x t false true true) [] default fFld (A4' fFld 22) (tms 0 133 (aG3 s k f (t + 1))) (oG A) kG iG3 F = VT.leaf (AX.normal,[s' s,AV.ptr 0 0,a',AV.ptr 1 0,AV.slice 1000 0 k 1 (Cp.lo k),i' f,i' t],133) [some (AO.cells [s' nil0,s' nil0] 78),some (AO.cells [s' nil0,s' nil0] 78),some (AO.cells (rowV encB A) 10),none,none] 1100 ((k143' f t).a ((k144' t).a ((k115' t s x).a ((k140' x).a ((k144' t).a ((k115' t s x).a ((k141' x).a (k20'.a ((k144' t).a t'))))))))) := by kernel_rfl
theorem f2' (s : ByteArray) (A : List UInt8) (x : UInt8) (k f t : Nat) (F : HP) : AV' [] (hG4 x t false false false) [] default fFld (A4' fFld 22) (tms 0 133 (aG3 s k f (t + 1))) (oG A) kG iG3 F = VT.leaf (AX.exit 6,[s' s,AV.ptr 0 0,a',AV.ptr 1 0,AV.slice 1000 0 k 1 (Cp.lo k),i' f,i' (t + 1)],133) [some (AO.cells [s' nil0,s' nil0] 78),some (AO.cells [s' nil0,s' nil0] 78),some (AO.cells (rowV encB A) 10),none,none] 1100 ((k143' f t).a ((k144' t).a ((k115' t s x).a ((k140' x).a ((k144' t).a ((k115' t s x).a ((k142' x).a (k34'.a t')))))))) := by kernel_rfl
theorem f3' (s : ByteArray) (A : List UInt8) (k f t : Nat) (F : HP) : AV' [] (AB' [(fFld, 22, 2, hv (.lit false))]) [] default fFld (A4' fFld 22) (tms 0 133 (aG3 s k f t)) (oG A) kG iG3 F = VT.leaf (AX.exit 6,[s' s,AV.ptr 0 0,a',AV.ptr 1 0,AV.slice 1000 0 k 1 (Cp.lo k),i' f,i' t],133) [some (AO.cells [s' nil0,s' nil0] 78),some (AO.cells [s' nil0,s' nil0] 78),some (AO.cells (rowV encB A) 10),none,none] 1100 ((k7' f t).a t') := by kernel_rfl
def lG4 (s : ByteArray) (A : List UInt8) (k f t g : Nat) : List AV → AP (AX × List AV) := mkL gG (fun _ => True) nmG (fun _ => tms 0 133 (aG3 s k f t)) (fun _ => oG A) (fun _ => .leaf (.exit 6) (tms 0 133 (aG3 s k f g)) (oG A))
def hFd (i : Nat) (b1 b2 r : Bool) (nm vl : ByteArray) : B4' := AB' [(fFld, 12, 3, hv (.lit b1)), (fFld, 12, 7, hv (.lit b2)), (fFld, 12, 8, hv (.lit r)), (fFld, 14, 1, hv (iv (Int.ofNat (i + 1)))), (fFld, 24, 1, ht nm), (fFld, 24, 5, h0v (sv vl))]
def kFd : List Nat := [1100, 1101, 1102, 1103, 1104]
noncomputable section
abbrev k145' (q0 : ByteArray) (q1 q2 q3 : Nat) : Cnd := (p' (VW (s' q0::u'::AV.ptr q1 0::b' false::AV.ptr q2 0::AV.slice q3 0 0 1 (Cp.ex 0)::i' 0::ru4 (AV.agg [s' y0',s' y0']::AV.slice q3 0 0 1 (Cp.ex 0)::ru16 (ru16 (ru16 (ru16 (ru16 (ru16 (ru16 (ru8 ([])))))))))) (s' q0::a'::AV.ptr q1 0::a'::AV.ptr q2 0::AV.slice q3 0 0 1 (Cp.lo 0)::i' 0::ra16 (ra16 (ra16 (ra16 (ra16 (ra16 (ra16 (ra8 (ra4 (a'::a'::[]))))))))))))
abbrev k146' : Cnd := (p' (OW (AO.cells [s' y0',s' y0'] 78) (AO.cells [s' nil0,s' nil0] 78)))
abbrev k147' : Cnd := (p' (OW (AO.cells (rep [AV.v (Value.int IntKind.u8 (Int.ofNat 0))] 0) 10) (AO.cells [] 10)))
abbrev k148' : Cnd := (p' ([s' nil0,s' nil0] = [s' nil0,s' nil0]))
end
theorem fT' (s : ByteArray) (F : HP) : wRun [] (hFd 0 false false false nil0 nil0) [(fFld, 4, A4' fFld 4, lG1x s)] default fFld [sv s] [] kFd F = VT.leaf (AV.tuple [AV.agg [s' nil0,s' nil0],b' false]) [some (AO.cells [s' nil0,s' nil0] 78),none,none,none,none] 1103 (k12'.a ((p' ((fFld,4,A4' fFld 4,lG1x s).snd.snd.fst = (fFld,4,A4' fFld 4,lG1x s).snd.snd.fst)).a (k15'.a ((k145' s 1100 1101 1102).a (k146'.a (k146'.a (k147'.a (k60'.a (k148'.a t'))))))))) := by kernel_rfl
noncomputable section
abbrev k149' (q0 : ByteArray) (q1 : List UInt8) (q2 q3 : Nat) : Cnd := (p' ((fFld,4,A4' fFld 4,lG1 q0 q1 q2 q3).snd.snd.fst = (fFld,4,A4' fFld 4,lG1 q0 q1 q2 q3).snd.snd.fst))
end
theorem fW' (s : ByteArray) (A : List UInt8) (k i : Nat) (F : HP) : wRun [] (hFd i true false true nil0 nil0) [(fFld, 4, A4' fFld 4, lG1 s A k i)] default fFld [sv s] [] kFd F = VT.leaf (AV.tuple [AV.agg [s' nil0,s' nil0],b' false]) [some (AO.cells [s' nil0,s' nil0] 78),some (AO.cells [s' nil0,s' nil0] 78),none,some (AO.cells (AV.rens (sgN (nmG (1100,1101,1102)) [1000] 1103) (rowV encB A)) 10),none] 1104 (k12'.a ((k149' s A k i).a (k15'.a ((k145' s 1100 1101 1102).a (k146'.a (k146'.a (k147'.a ((f' (Wk (b' (Int.ofNat i == ↑s.size)) j')).a (k20'.a (k136'.a (k12'.a (k60'.a (k148'.a t'))))))))))))) := by kernel_rfl
theorem fV' (s : ByteArray) (A : List UInt8) (k i : Nat) (F : HP) : wRun [] (hFd i false true true nil0 nil0) [(fFld, 4, A4' fFld 4, lG1 s A k i)] default fFld [sv s] [] kFd F = VT.leaf (AV.tuple [AV.agg [s' nil0,s' nil0],b' false]) [some (AO.cells [s' nil0,s' nil0] 78),some (AO.cells [s' nil0,s' nil0] 78),none,some (AO.cells (AV.rens (sgN (nmG (1100,1101,1102)) [1000] 1103) (rowV encB A)) 10),none] 1104 (k12'.a ((k149' s A k i).a (k15'.a ((k145' s 1100 1101 1102).a (k146'.a (k146'.a (k147'.a ((k114' i s).a ((f' (Wk (b' (↑k == Int.ofNat 0)) j')).a (k20'.a (k136'.a (k12'.a (k60'.a (k148'.a t')))))))))))))) := by kernel_rfl
noncomputable section
abbrev k150' (q0 : Nat) : Cnd := (f' (Wk (b' (↑q0 == Int.ofNat 0)) g'))
abbrev k151' (q0 : ByteArray) (q1 q2 q3 q4 q5 : Nat) : Cnd := (p' (VW (s' q0::a'::AV.ptr q1 0::a'::AV.ptr q2 0::AV.slice q3 0 q4 1 (Cp.lo q4)::i' q5::a'::i' (q5 + 1)::z' ↑q0.size::i' (q5 + 1)::ra16 (ra16 (ra8 (a'::a'::i' q5::s' q0::z' ↑q0.size::g'::g'::AV.slice q3 0 q4 1 (Cp.lo q4)::z' ↑q4::g'::g'::a'::i' q5::i' (q5 + 1)::s' q0::z' ↑q0.size::i' (q5 + 1)::ra16 (ra16 (ra16 (ra16 (a'::[])))))))) (s' q0::a'::AV.ptr q1 0::a'::AV.ptr q2 0::AV.slice q3 0 q4 1 (Cp.lo q4)::a'::a'::i' (q5 + 1)::i' q0.size::i' (q5 + 1)::ra16 (ra16 (ra16 (ra16 (ra16 (ra16 (ra16 (ra8 (a'::a'::[])))))))))))
abbrev k152' : Cnd := (p' (OW (AO.cells [s' nil0,s' nil0] 78) (AO.cells [s' nil0,s' nil0] 78)))
abbrev k153' (q0 q1 q2 q3 q4 : Nat) (q5 : List UInt8) : Cnd := (p' (OW (AO.cells (AV.rens (sgN (nmG (q0,q1,q2)) [q3] q4) (rowV encB q5)) 10) (AO.cells (AV.rens (nmG (q0,q1,q4)) (rowV encB q5)) 10)))
end
theorem fU' (s : ByteArray) (A : List UInt8) (k i : Nat) (F : HP) : wRun [] (hFd i false false false nil0 nil0) [(fFld, 4, A4' fFld 4, lG1 s A k i), (fFld, 16, A4' fFld 16, lG2x s A k (i + 1) s.size)] default fFld [sv s] [] kFd F = VT.leaf (AV.tuple [AV.agg [s' nil0,s' nil0],b' false]) [some (AO.cells [s' nil0,s' nil0] 78),none,none,none,none] 1104 (k12'.a ((k149' s A k i).a (k15'.a ((k145' s 1100 1101 1102).a (k146'.a (k146'.a (k147'.a ((k114' i s).a ((k150' k).a (k34'.a ((k6' i).a ((p' ((fFld,16,A4' fFld 16,lG2x s A k (i + 1) s.size).snd.snd.fst = (fFld,16,A4' fFld 16,lG2x s A k (i + 1) s.size).snd.snd.fst)).a (k15'.a ((k151' s 1100 1101 1103 k i).a (k152'.a (k152'.a ((k153' 1100 1101 1102 1000 1103 A).a (k60'.a (k148'.a t'))))))))))))))))))) := by kernel_rfl
theorem fS' (s nm vl : ByteArray) (A : List UInt8) (k i g t : Nat) (F : HP) : wRun [] (hFd i false false false nm vl) [(fFld, 4, A4' fFld 4, lG1 s A k i), (fFld, 16, A4' fFld 16, lG2 s A k (i + 1) s.size), (fFld, 20, A4' fFld 20, lG3 s A k (i + 1) s.size g), (fFld, 22, A4' fFld 22, lG4 s A k g s.size t)] default fFld [sv s] [] kFd F = VT.leaf (AV.tuple [AV.agg [s' nm,s' vl],b' true]) [some (AO.cells [s' nm,s' vl] 78),some (AO.cells [s' nil0,s' nil0] 78),none,none,none] 1107 (k12'.a ((k149' s A k i).a (k15'.a ((k145' s 1100 1101 1102).a (k146'.a (k146'.a (k147'.a ((k114' i s).a ((k150' k).a (k34'.a ((k6' i).a ((p' ((fFld,16,A4' fFld 16,lG2 s A k (i + 1) s.size).snd.snd.fst = (fFld,16,A4' fFld 16,lG2 s A k (i + 1) s.size).snd.snd.fst)).a (k15'.a ((k151' s 1100 1101 1103 k i).a (k152'.a (k152'.a ((k153' 1100 1101 1102 1000 1103 A).a ((p' ((fFld,20,A4' fFld 20,lG3 s A k (i + 1) s.size g).snd.snd.fst = (fFld,20,A4' fFld 20,lG3 s A k (i + 1) s.size g).snd.snd.fst)).a (k15'.a ((p' (VW (s' s::a'::AV.ptr 1100 0::a'::AV.ptr 1101 0::AV.slice 1104 0 k 1 (Cp.lo k)::a'::a'::i' (i + 1)::i' s.size::ra16 (ra16 (ra16 (ra16 (ra16 (ra16 (ra16 (ra8 (a'::a'::a'::[]))))))))) (s' s::a'::AV.ptr 1100 0::a'::AV.ptr 1101 0::AV.slice 1104 0 k 1 (Cp.lo k)::a'::a'::i' (i + 1)::i' s.size::ra16 (ra16 (ra16 (ra16 (ra16 (ra16 (ra16 (ra8 (a'::a'::a'::[]))))))))))).a (k152'.a (k152'.a ((k153' 1100 1101 1103 1000 1104 A).a ((p' ((fFld,22,A4' fFld 22,lG4 s A k g s.size t).snd.snd.fst = (fFld,22,A4' fFld 22,lG4 s A k g s.size t).snd.snd.fst)).a (k15'.a ((p' (VW (s' s::a'::AV.ptr 1100 0::a'::AV.ptr 1101 0::AV.slice 1105 0 k 1 (Cp.lo k)::a'::a'::i' g::i' s.size::ra16 (ra16 (ra16 (ra16 (ra16 (ra16 (ra16 (ra8 (a'::a'::a'::[]))))))))) (s' s::a'::AV.ptr 1100 0::a'::AV.ptr 1101 0::AV.slice 1105 0 k 1 (Cp.lo k)::a'::a'::i' g::i' s.size::ra16 (ra16 (ra16 (ra16 (ra16 (ra16 (ra16 (ra8 (a'::a'::a'::[]))))))))))).a (k152'.a (k152'.a ((k153' 1100 1101 1104 1000 1105 A).a ((f' (0 + k ≤ (AV.rens (sgN (nmG (1100,1101,1105)) [1000] 1106) (rowV encB A)).length ∧ List.take k (List.drop 0 (AV.rens (sgN (nmG (1100,1101,1105)) [1000] 1106) (rowV encB A))) = vmap (List.map (fun b => Value.int IntKind.u8 ↑b.toNat) nm.data.toList))).a ((k116' g t s vl).a (k12'.a (k60'.a (f' ([s' nm,s' vl] = [s' nm,s' vl]))))))))))))))))))))))))))))))))))) := by kernel_rfl
end
def qLt (c : UInt8) : Bool := (65 ≤ c && c ≤ 90) || (97 ≤ c && c ≤ 122)
theorem J8' (w : World) : DI' fLtr qLt w := by unfold DI'; kernel_rfl
theorem JU' (w : World) : DI' fDgt qD w := by unfold DI'; kernel_rfl
theorem DA' {p : UInt8 → Bool} (h : ∀ c : Fin 256, p (UInt8.ofNat c.val) = true) (x : UInt8) : p x = true := by
 have := h ⟨x.toNat, x.toNat_lt⟩
 rwa [show UInt8.ofNat x.toNat = x from UInt8.ofNat_toNat] at this
theorem MR' (x : UInt8) : qL x = (qLt x && !decide (97 ≤ x.toNat)) := by
 have := DA' (p := fun x => qL x == (qLt x && !decide (97 ≤ x.toNat))) (by decide +kernel) x
 exact beq_iff_eq.1 this
theorem MQ' (x : UInt8) : qS x = (!decide (x.toNat < 33) && !decide (126 < x.toNat)) := by
 have := DA' (p := fun x => qS x == (!decide (x.toNat < 33) && !decide (126 < x.toNat))) (by decide +kernel) x
 exact beq_iff_eq.1 this
theorem OV' : ∀ args, RO (gF1 args) := by
 intro args
 unfold gF1
 split
 ·exact RO.ret _
 ·exact RO.fail _
section
variable (a b c : ByteArray)
theorem VJ' (ha : a.size ≤ 100) (h : a.data.toList.all qL = true) : LTri Tryz.prog default (A4' fFst 7) (tms 0 98 (aF1 0)) (oF1 a b c) (.exit 0) (tms 0 98 [(2, .ptr 0 0), (4, sB 1 3)]) (oF1 a b c) := by
 refine AS' (W := default) (g := fFst) (b := A4' fFst 7) (σ := {i : Nat // i ≤ a.size}) 98 (fun i => aF1 i.1) (fun _ => oF1 a b c) (.exit 0) [(2, .ptr 0 0), (4, sB 1 3)] (oF1 a b c) (fun i => a.size - i.1) kF1 iF1 (by intro h; cases h) (fun _ => rfl) rfl ?_ ⟨0, Nat.zero_le _⟩
 rintro ⟨i, hi⟩
 simp only
 by_cases hlt : i < a.size
 ·have hwi := AO' i (by omega)
  have e1 : decide (Int.ofNat i < ((a.size : Nat) : Int)) = true := ltTN hlt
  have hx : qL (a.data.toList.getD i 0) = true := List.all_eq_true.1 h _ (N3' hlt)
  rw [MR', Bool.and_eq_true] at hx
  have hx2 : ¬ 97 ≤ (a.data.toList.getD i 0).toNat := by have := hx.2; simpa using this
  have hx1 := hx.1
  obtain ⟨x, hxe⟩ : ∃ x, a.data.toList.getD i 0 = x := ⟨_, rfl⟩
  rw [hxe] at hx1 hx2
  have hby : Wk (AV.v (.int .u8 (a.data.toList.getD i 0).toNat)) (byv x) := by rw [hxe]; exact w0
  refine ⟨[(fLtr, cW x true)], hF1 a x i false false false, [], fun F hF => AP' (BU' (AE'.nothing F) J8' hx1), fun _ _ => noL, fun F => ?_⟩
  refine cv (UR' a b c x i F) ⟨⟨?_, rfl, .inl ⟨rfl, ⟨i + 1, hlt⟩, AR' hlt, [], rfl, rfl, ⟨w0, w0, w0, t0⟩, ⟨_, rfl, o0⟩, ⟨_, rfl, o0⟩, t0⟩⟩⟩
  simp only [Cnd.holds, A2', Nat.blt_eq, true_and, and_true]
  and_intros
  all_goals first
   | exact AG' hwi
   | exact A1' e1
   | exact hby
   | exact hlt
   | exact A1' (decide_eq_true (by simp only [Z0, Z1, Z2]; omega))
   | exact A1' (decide_eq_false (by simp only [Z0, Z1, Z2]; omega)) | (with_reducible first | exact t0 | exact r0 | exact A6' _ | assumption) | exact r0 | ((repeat (first | exact VW.nil | refine c1 ?_ | refine c2 ?_ | refine c3 ?_)); done)
 ·have hie : i = a.size := by omega
  subst hie
  have e1 : decide (Int.ofNat a.size < ((a.size : Nat) : Int)) = false := ltFN (n0)
  refine ⟨[], AB' [(fFst, 7, 3, hv (sv a)), (fFst, 7, 5, hv (.lit false))], [], fun _ _ => noC, fun _ _ => noL, fun F => ?_⟩
  refine cv (g0' a b c a.size F) ⟨⟨?_, rfl, .inr ⟨rfl, [], rfl, rfl, ⟨w0, w0, t0⟩, ⟨_, rfl, o0⟩, ⟨_, rfl, o0⟩, t0⟩⟩⟩
  simp only [Cnd.holds, A2', Nat.blt_eq, true_and, and_true]
  and_intros
  all_goals first
   | exact A1' e1 | (with_reducible first | exact t0 | exact r0 | exact A6' _ | assumption) | exact r0 | ((repeat (first | exact VW.nil | refine c1 ?_ | refine c2 ?_ | refine c3 ?_)); done)
theorem f1_bad (ha : a.size ≤ 100) (h : a.data.toList.all qL = false) : LTri Tryz.prog default (A4' fFst 7) (tms 0 98 (aF1 0)) (oF1 a b c) .ret (tms 0 98 [(2, .ptr 0 0), (3, bv false)]) [(0, rq00)] := by
 obtain ⟨k, hk, hbad, hgood⟩ := E2' h
 have hal : a.data.toList.length = a.size := rfl
 refine AS' (W := default) (g := fFst) (b := A4' fFst 7) (σ := {i : Nat // i ≤ k}) 98 (fun i => aF1 i.1) (fun _ => oF1 a b c) .ret [(2, .ptr 0 0), (3, bv false)] [(0, rq00)] (fun i => k - i.1) kF1 iF1 (by intro h; cases h) (fun _ => rfl) rfl ?_ ⟨0, Nat.zero_le _⟩
 rintro ⟨i, hi⟩
 simp only
 have hlt : i < a.size := by omega
 have hwi := AO' i (by omega)
 have e1 : decide (Int.ofNat i < ((a.size : Nat) : Int)) = true := ltTN hlt
 by_cases hik : i < k
 ·have hx := hgood i hik
  rw [MR', Bool.and_eq_true] at hx
  have hx2 : ¬ 97 ≤ (a.data.toList.getD i 0).toNat := by have := hx.2; simpa using this
  have hx1 := hx.1
  obtain ⟨x, hxe⟩ : ∃ x, a.data.toList.getD i 0 = x := ⟨_, rfl⟩
  rw [hxe] at hx1 hx2
  have hby : Wk (AV.v (.int .u8 (a.data.toList.getD i 0).toNat)) (byv x) := by rw [hxe]; exact w0
  refine ⟨[(fLtr, cW x true)], hF1 a x i false false false, [], fun F hF => AP' (BU' (AE'.nothing F) J8' hx1), fun _ _ => noL, fun F => ?_⟩
  refine cv (UR' a b c x i F) ⟨⟨?_, rfl, .inl ⟨rfl, ⟨i + 1, hik⟩, AR' hik, [], rfl, rfl, ⟨w0, w0, w0, t0⟩, ⟨_, rfl, o0⟩, ⟨_, rfl, o0⟩, t0⟩⟩⟩
  simp only [Cnd.holds, A2', Nat.blt_eq, true_and, and_true]
  and_intros
  all_goals first
   | exact AG' hwi
   | exact A1' e1
   | exact hby
   | exact hlt
   | exact A1' (decide_eq_true (by simp only [Z0, Z1, Z2]; omega))
   | exact A1' (decide_eq_false (by simp only [Z0, Z1, Z2]; omega)) | (with_reducible first | exact t0 | exact r0 | exact A6' _ | assumption) | exact r0 | ((repeat (first | exact VW.nil | refine c1 ?_ | refine c2 ?_ | refine c3 ?_)); done)
 ·have hie : i = k := by omega
  subst hie
  rw [MR'] at hbad
  obtain ⟨x, hxe⟩ : ∃ x, a.data.toList.getD i 0 = x := ⟨_, rfl⟩
  rw [hxe] at hbad
  have hby : Wk (AV.v (.int .u8 (a.data.toList.getD i 0).toNat)) (byv x) := by rw [hxe]; exact w0
  by_cases hx1 : qLt x = true
  ·rw [hx1, Bool.true_and] at hbad
   have hx2 : 97 ≤ x.toNat := by simpa using hbad
   refine ⟨[(fLtr, cW x true)], hF1 a x i false true true, [], fun F hF => AP' (BU' (AE'.nothing F) J8' hx1), fun _ _ => noL, fun F => ?_⟩
   refine cv (g1' a b c x i F) ⟨⟨?_, rfl, .inr ⟨rfl, [], rfl, rfl, ⟨w0, w0, t0⟩, ⟨_, rfl, o0⟩, t0⟩⟩⟩
   simp only [Cnd.holds, A2', Nat.blt_eq, true_and, and_true]
   and_intros
   all_goals first
    | exact AG' hwi
    | exact A1' e1
    | exact hby
    | exact hlt
    | exact A1' (decide_eq_true (by simp only [Z0, Z1, Z2]; omega))
    | exact A1' (decide_eq_false (by simp only [Z0, Z1, Z2]; omega)) | (with_reducible first | exact t0 | exact r0 | exact A6' _ | assumption) | exact r0 | ((repeat (first | exact VW.nil | refine c1 ?_ | refine c2 ?_ | refine c3 ?_)); done)
  ·refine ⟨[(fLtr, cW x false)], hF1 a x i true false true, [], fun F hF => AP' (BU' (AE'.nothing F) J8' (eq_false_of_ne_true hx1)), fun _ _ => noL, fun F => ?_⟩
   refine cv (g2' a b c x i F) ⟨⟨?_, rfl, .inr ⟨rfl, [], rfl, rfl, ⟨w0, w0, t0⟩, ⟨_, rfl, o0⟩, t0⟩⟩⟩
   simp only [Cnd.holds, A2', Nat.blt_eq, true_and, and_true]
   and_intros
   all_goals first
    | exact AG' hwi
    | exact A1' e1
    | exact hby
    | exact hlt
    | exact A1' (decide_eq_true (by simp only [Z0, Z1, Z2]; omega))
    | exact A1' (decide_eq_false (by simp only [Z0, Z1, Z2]; omega)) | (with_reducible first | exact t0 | exact r0 | exact A6' _ | assumption) | exact r0 | ((repeat (first | exact VW.nil | refine c1 ?_ | refine c2 ?_ | refine c3 ?_)); done)
theorem h8' (hb : b.size ≤ 1000000) (h : b.data.toList.all qS = true) : LTri Tryz.prog default (A4' fFst 12) (tms 0 98 (aF2 0)) (oF1 a b c) (.exit 2) (tms 0 98 [(2, .ptr 0 0), (4, sB 1 3)]) (oF1 a b c) := by
 refine AS' (W := default) (g := fFst) (b := A4' fFst 12) (σ := {i : Nat // i ≤ b.size}) 98 (fun i => aF2 i.1) (fun _ => oF1 a b c) (.exit 2) [(2, .ptr 0 0), (4, sB 1 3)] (oF1 a b c) (fun i => b.size - i.1) kF1 iF2 (by intro h; cases h) (fun _ => rfl) rfl ?_ ⟨0, Nat.zero_le _⟩
 rintro ⟨i, hi⟩
 simp only
 by_cases hlt : i < b.size
 ·have hwi := AO' i (by omega)
  have e1 : decide (Int.ofNat i < ((b.size : Nat) : Int)) = true := ltTN hlt
  have hx : qS (b.data.toList.getD i 0) = true := List.all_eq_true.1 h _ (N3' hlt)
  rw [MQ', Bool.and_eq_true] at hx
  have hx1 : ¬ (b.data.toList.getD i 0).toNat < 33 := by have := hx.1; simpa using this
  have hx2 : ¬ 126 < (b.data.toList.getD i 0).toNat := by have := hx.2; simpa using this
  obtain ⟨x, hxe⟩ : ∃ x, b.data.toList.getD i 0 = x := ⟨_, rfl⟩
  rw [hxe] at hx1 hx2
  have hby : Wk (AV.v (.int .u8 (b.data.toList.getD i 0).toNat)) (byv x) := by rw [hxe]; exact w0
  refine ⟨[], hF2 b x i false false false, [], fun F hF => noC, fun _ _ => noL, fun F => ?_⟩
  refine cv (UQ' a b c x i F) ⟨⟨?_, rfl, .inl ⟨rfl, ⟨i + 1, hlt⟩, AR' hlt, [], rfl, rfl, ⟨w0, w0, w0, t0⟩, ⟨_, rfl, o0⟩, ⟨_, rfl, o0⟩, t0⟩⟩⟩
  simp only [Cnd.holds, A2', Nat.blt_eq, true_and, and_true]
  and_intros
  all_goals first
   | exact AG' hwi
   | exact A1' e1
   | exact hby
   | exact hlt
   | exact A1' (decide_eq_true (by simp only [Z0, Z1, Z2]; omega))
   | exact A1' (decide_eq_false (by simp only [Z0, Z1, Z2]; omega)) | (with_reducible first | exact t0 | exact r0 | exact A6' _ | assumption) | exact r0 | ((repeat (first | exact VW.nil | refine c1 ?_ | refine c2 ?_ | refine c3 ?_)); done)
 ·have hie : i = b.size := by omega
  subst hie
  have e1 : decide (Int.ofNat b.size < ((b.size : Nat) : Int)) = false := ltFN (n0)
  refine ⟨[], AB' [(fFst, 12, 3, hv (sv b)), (fFst, 12, 5, hv (.lit false))], [], fun _ _ => noC, fun _ _ => noL, fun F => ?_⟩
  refine cv (fX' a b c b.size F) ⟨⟨?_, rfl, .inr ⟨rfl, [], rfl, rfl, ⟨w0, w0, t0⟩, ⟨_, rfl, o0⟩, ⟨_, rfl, o0⟩, t0⟩⟩⟩
  simp only [Cnd.holds, A2', Nat.blt_eq, true_and, and_true]
  and_intros
  all_goals first
   | exact A1' e1 | (with_reducible first | exact t0 | exact r0 | exact A6' _ | assumption) | exact r0 | ((repeat (first | exact VW.nil | refine c1 ?_ | refine c2 ?_ | refine c3 ?_)); done)
theorem f2_bad (hb : b.size ≤ 1000000) (h : b.data.toList.all qS = false) : LTri Tryz.prog default (A4' fFst 12) (tms 0 98 (aF2 0)) (oF1 a b c) .ret (tms 0 98 [(2, .ptr 0 0), (3, bv false)]) [(0, rq00)] := by
 obtain ⟨k, hk, hbad, hgood⟩ := E2' h
 have hal : b.data.toList.length = b.size := rfl
 refine AS' (W := default) (g := fFst) (b := A4' fFst 12) (σ := {i : Nat // i ≤ k}) 98 (fun i => aF2 i.1) (fun _ => oF1 a b c) .ret [(2, .ptr 0 0), (3, bv false)] [(0, rq00)] (fun i => k - i.1) kF1 iF2 (by intro h; cases h) (fun _ => rfl) rfl ?_ ⟨0, Nat.zero_le _⟩
 rintro ⟨i, hi⟩
 simp only
 have hlt : i < b.size := by omega
 have hwi := AO' i (by omega)
 have e1 : decide (Int.ofNat i < ((b.size : Nat) : Int)) = true := ltTN hlt
 by_cases hik : i < k
 ·have hx := hgood i hik
  rw [MQ', Bool.and_eq_true] at hx
  have hx1 : ¬ (b.data.toList.getD i 0).toNat < 33 := by have := hx.1; simpa using this
  have hx2 : ¬ 126 < (b.data.toList.getD i 0).toNat := by have := hx.2; simpa using this
  obtain ⟨x, hxe⟩ : ∃ x, b.data.toList.getD i 0 = x := ⟨_, rfl⟩
  rw [hxe] at hx1 hx2
  have hby : Wk (AV.v (.int .u8 (b.data.toList.getD i 0).toNat)) (byv x) := by rw [hxe]; exact w0
  refine ⟨[], hF2 b x i false false false, [], fun F hF => noC, fun _ _ => noL, fun F => ?_⟩
  refine cv (UQ' a b c x i F) ⟨⟨?_, rfl, .inl ⟨rfl, ⟨i + 1, hik⟩, AR' hik, [], rfl, rfl, ⟨w0, w0, w0, t0⟩, ⟨_, rfl, o0⟩, ⟨_, rfl, o0⟩, t0⟩⟩⟩
  simp only [Cnd.holds, A2', Nat.blt_eq, true_and, and_true]
  and_intros
  all_goals first
   | exact AG' hwi
   | exact A1' e1
   | exact hby
   | exact hlt
   | exact A1' (decide_eq_true (by simp only [Z0, Z1, Z2]; omega))
   | exact A1' (decide_eq_false (by simp only [Z0, Z1, Z2]; omega)) | (with_reducible first | exact t0 | exact r0 | exact A6' _ | assumption) | exact r0 | ((repeat (first | exact VW.nil | refine c1 ?_ | refine c2 ?_ | refine c3 ?_)); done)
 ·have hie : i = k := by omega
  subst hie
  rw [MQ'] at hbad
  obtain ⟨x, hxe⟩ : ∃ x, b.data.toList.getD i 0 = x := ⟨_, rfl⟩
  rw [hxe] at hbad
  have hby : Wk (AV.v (.int .u8 (b.data.toList.getD i 0).toNat)) (byv x) := by rw [hxe]; exact w0
  by_cases hx1 : x.toNat < 33
  ·refine ⟨[], hF2 b x i true false true, [], fun F hF => noC, fun _ _ => noL, fun F => ?_⟩
   refine cv (fZ' a b c x i F) ⟨⟨?_, rfl, .inr ⟨rfl, [], rfl, rfl, ⟨w0, w0, t0⟩, ⟨_, rfl, o0⟩, t0⟩⟩⟩
   simp only [Cnd.holds, A2', Nat.blt_eq, true_and, and_true]
   and_intros
   all_goals first
    | exact AG' hwi
    | exact A1' e1
    | exact hby
    | exact hlt
    | exact A1' (decide_eq_true (by simp only [Z0, Z1, Z2]; omega))
    | exact A1' (decide_eq_false (by simp only [Z0, Z1, Z2]; omega)) | (with_reducible first | exact t0 | exact r0 | exact A6' _ | assumption) | exact r0 | ((repeat (first | exact VW.nil | refine c1 ?_ | refine c2 ?_ | refine c3 ?_)); done)
  ·have hx2 : 126 < x.toNat := by
    rw [decide_eq_false hx1] at hbad
    simpa using hbad
   refine ⟨[], hF2 b x i false true true, [], fun F hF => noC, fun _ _ => noL, fun F => ?_⟩
   refine cv (fY' a b c x i F) ⟨⟨?_, rfl, .inr ⟨rfl, [], rfl, rfl, ⟨w0, w0, t0⟩, ⟨_, rfl, o0⟩, t0⟩⟩⟩
   simp only [Cnd.holds, A2', Nat.blt_eq, true_and, and_true]
   and_intros
   all_goals first
    | exact AG' hwi
    | exact A1' e1
    | exact hby
    | exact hlt
    | exact A1' (decide_eq_true (by simp only [Z0, Z1, Z2]; omega))
    | exact A1' (decide_eq_false (by simp only [Z0, Z1, Z2]; omega)) | (with_reducible first | exact t0 | exact r0 | exact A6' _ | assumption) | exact r0 | ((repeat (first | exact VW.nil | refine c1 ?_ | refine c2 ?_ | refine c3 ?_)); done)
end
theorem DG' (F : HP) {s : ByteArray} (hs : s.size ≤ 1000000) {M : List ByteArray} (hM : cutB 32 s = M) {n : Nat} (hn : M.length = n) : C1OK Tryz.prog F fRCt (DH' s 32 M n) :=
 BK' (AE'.nothing F) (fun _ => sB 1000 n) (fun _ => RO.ret _) (fun _ => rfl) (fun _ _ => by
  have := aB' s 32 hs
  rw [hM, hn] at this
  exact this) fun _ => ⟨rfl, rfl, ⟨t0, t0, t0⟩, A3', ⟨rfl, t0⟩, A0' (DB' _ _) A3'⟩
theorem Q0' (s : ByteArray) : splB s spB = cutB 32 s := TZ' 32 s
theorem lnW_eq (a b c : ByteArray) : lnW a b c = if (a.size ≠ 0 ∧ a.size ≤ 20 ∧ qIn fQl a = true) ∧ GQ' b slB = true ∧ qIn fQs b = true ∧ c = verB then some (a, b) else none := by
 unfold lnW
 by_cases h1 : a.size = 0
 ·rw [if_pos h1, if_neg fun h => h.1.1 h1]
 by_cases h2 : 20 < a.size
 ·rw [if_neg h1, if_pos h2, if_neg fun h => by have := h.1.2.1; omega]
 by_cases h3 : qIn fQl a = false
 ·rw [if_neg h1, if_neg h2, if_pos h3, if_neg fun h => by rw [h.1.2.2] at h3; cases h3]
 by_cases h4 : GQ' b slB = false
 ·rw [if_neg h1, if_neg h2, if_neg h3, if_pos h4, if_neg fun h => by rw [h.2.1] at h4; cases h4]
 by_cases h5 : qIn fQs b = false
 ·rw [if_neg h1, if_neg h2, if_neg h3, if_neg h4, if_pos h5, if_neg fun h => by rw [h.2.2.1] at h5; cases h5]
 by_cases h6 : c = verB
 ·rw [if_neg h1, if_neg h2, if_neg h3, if_neg h4, if_neg h5, if_pos h6, if_pos ⟨⟨h1, by omega, eq_true_of_ne_false h3⟩, eq_true_of_ne_false h4, eq_true_of_ne_false h5, h6⟩]
 ·rw [if_neg h1, if_neg h2, if_neg h3, if_neg h4, if_neg h5, if_neg h6, if_neg fun h => h6 h.2.2.2]
theorem Z9' (b : ByteArray) (h : 0 < b.size) : (((b.data.toList.getD 0 0).toNat : Int) == Int.ofNat 47) = GQ' b slB := by
 have hl : b.data.toList.length = b.size := rfl
 unfold GQ' Lib.hasPrefix
 cases hd : b.data.toList with
 | nil => rw [hd] at hl; simp at hl; omega
 | cons x r =>
  show ((x.toNat : Int) == Int.ofNat 47) = ((47 : UInt8) == x && List.isPrefixOf [] r)
  have : List.isPrefixOf ([] : List UInt8) r = true := rfl
  rw [this, Bool.and_true, Bool.eq_iff_iff, beq_iff_eq, beq_iff_eq]
  refine ⟨fun e => ?_, fun e => by rw [← e]; rfl⟩
  have e : (x.toNat : Int) = (47 : Nat) := e
  exact (UInt8.toNat_inj.1 (show x.toNat = (47 : UInt8).toNat from Int.ofNat.inj e)).symm
section
variable {s a b c : ByteArray} (hs : s.size ≤ 8192) (h : cutB 32 s = [a, b, c])
include hs h
theorem fi1 (h1 : a.size = 0) : Tri Tryz.prog default fFst [sv s] [] (.tuple [rqV nil0 nil0 nilP nilB, bv false]) [] := by
 refine AA' (con := [(fRCt, DH' s 32 [a, b, c] 3)]) (hints := hFi a b c 0 false true false false false true false) (lc := []) [] rfl (fun F hF => AP' (DG' F (by omega) h rfl)) (fun F hF => noL) fun F => ?_
 refine cv (fP' s a b c F) ⟨⟨?_, (AF' (vs' := [.tuple [rqV nil0 nil0 nilP nilB, bv false]]) (H' := []) [] rfl rfl (v0) trivial).fits rfl⟩⟩
 simp only [Cnd.holds, A2', Nat.blt_eq, true_and, and_true]
 and_intros
 all_goals first
  | exact A1' (decide_eq_true (by simp only [Z0, Z1, Z2]; omega))
  | exact A1' (decide_eq_false (by simp only [Z0, Z1, Z2]; omega)) | (with_reducible first | exact t0 | exact r0 | exact A6' _ | assumption) | exact r0 | ((repeat (first | exact VW.nil | refine c1 ?_ | refine c2 ?_ | refine c3 ?_)); done)
theorem fi2 (h1 : a.size ≠ 0) (h2 : 20 < a.size) : Tri Tryz.prog default fFst [sv s] [] (.tuple [rqV nil0 nil0 nilP nilB, bv false]) [] := by
 refine AA' (con := [(fRCt, DH' s 32 [a, b, c] 3)]) (hints := hFi a b c 0 false false true false false true false) (lc := []) [] rfl (fun F hF => AP' (DG' F (by omega) h rfl)) (fun F hF => noL) fun F => ?_
 refine cv (fO' s a b c F) ⟨⟨?_, (AF' (vs' := [.tuple [rqV nil0 nil0 nilP nilB, bv false]]) (H' := []) [] rfl rfl (v0) trivial).fits rfl⟩⟩
 simp only [Cnd.holds, A2', Nat.blt_eq, true_and, and_true]
 and_intros
 all_goals first
  | exact A1' (decide_eq_true (by simp only [Z0, Z1, Z2]; omega))
  | exact A1' (decide_eq_false (by simp only [Z0, Z1, Z2]; omega)) | (with_reducible first | exact t0 | exact r0 | exact A6' _ | assumption) | exact r0 | ((repeat (first | exact VW.nil | refine c1 ?_ | refine c2 ?_ | refine c3 ?_)); done)
theorem fi3 (h1 : a.size ≠ 0) (h2 : ¬ 20 < a.size) (h3 : b.size = 0) : Tri Tryz.prog default fFst [sv s] [] (.tuple [rqV nil0 nil0 nilP nilB, bv false]) [] := by
 refine AA' (con := [(fRCt, DH' s 32 [a, b, c] 3)]) (hints := hFi a b c 0 false false false true false true false) (lc := []) [] rfl (fun F hF => AP' (DG' F (by omega) h rfl)) (fun F hF => noL) fun F => ?_
 refine cv (fN' s a b c F) ⟨⟨?_, (AF' (vs' := [.tuple [rqV nil0 nil0 nilP nilB, bv false]]) (H' := []) [] rfl rfl (v0) trivial).fits rfl⟩⟩
 simp only [Cnd.holds, A2', Nat.blt_eq, true_and, and_true]
 and_intros
 all_goals first
  | exact A1' (decide_eq_true (by simp only [Z0, Z1, Z2]; omega))
  | exact A1' (decide_eq_false (by simp only [Z0, Z1, Z2]; omega)) | (with_reducible first | exact t0 | exact r0 | exact A6' _ | assumption) | exact r0 | ((repeat (first | exact VW.nil | refine c1 ?_ | refine c2 ?_ | refine c3 ?_)); done)
theorem fi4 (h1 : a.size ≠ 0) (h2 : ¬ 20 < a.size) (h3 : b.size ≠ 0) (h4 : c ≠ verB) : Tri Tryz.prog default fFst [sv s] [] (.tuple [rqV nil0 nil0 nilP nilB, bv false]) [] := by
 refine AA' (con := [(fRCt, DH' s 32 [a, b, c] 3)]) (hints := hFi a b c 0 false false false false true true false) (lc := []) [] rfl (fun F hF => AP' (DG' F (by omega) h rfl)) (fun F hF => noL) fun F => ?_
 refine cv (fM' s a b c F) ⟨⟨?_, (AF' (vs' := [.tuple [rqV nil0 nil0 nilP nilB, bv false]]) (H' := []) [] rfl rfl (v0) trivial).fits rfl⟩⟩
 simp only [Cnd.holds, A2', Nat.blt_eq, true_and, and_true]
 and_intros
 all_goals first
  | exact A1' (by rw [LX' c, decide_eq_false h4]; rfl)
  | exact A1' (decide_eq_true (by simp only [Z0, Z1, Z2]; omega))
  | exact A1' (decide_eq_false (by simp only [Z0, Z1, Z2]; omega)) | (with_reducible first | exact t0 | exact r0 | exact A6' _ | assumption) | exact r0 | ((repeat (first | exact VW.nil | refine c1 ?_ | refine c2 ?_ | refine c3 ?_)); done)
theorem fiA (h1 : a.size ≠ 0) (h2 : ¬ 20 < a.size) (h3 : b.size ≠ 0) (h4 : c = verB) (hb : b.size ≤ 1000000) (h5 : qIn fQl a = false) : Tri Tryz.prog default fFst [sv s] [] (.tuple [rqV nil0 nil0 nilP nilB, bv false]) [] := by
 refine AA' (con := [(fRCt, DH' s 32 [a, b, c] 3)]) (hints := hFi a b c 0 false false false false false false false) (lc := [(fFst, 7, A4' fFst 7, lF1x a b c)]) [] rfl (fun F hF => AP' (DG' F (by omega) h rfl)) (fun F hF => BE' (AW' (AE'.nothing F) OV' (fun _ _ => by
  simp only [RT.pick]
  exact f1_bad a b c (by omega) h5) fun _ => by
  simp only [RT.pick]
  exact AQ' rfl rfl (A0' rfl (A0' rfl (A0' t0 A3'))) (A0' ⟨t0, t0, t0, t0, t0⟩ (A0' (DB' _ _) A3')) (A0' rfl (A0' t0 A3')) (A0' ⟨t0, t0, t0, t0, t0⟩ A3'))) fun F => ?_
 refine cv (fL' s a b c F) ⟨⟨?_, (AF' (vs' := [.tuple [rqV nil0 nil0 nilP nilB, bv false]]) (H' := []) [] rfl rfl (v0) trivial).fits rfl⟩⟩
 simp only [Cnd.holds, A2', Nat.blt_eq, true_and, and_true]
 and_intros
 all_goals first
  | exact A1' (by rw [LX' c, decide_eq_true h4]; rfl)
  | exact A1' (decide_eq_true (by simp only [Z0, Z1, Z2]; omega))
  | exact A1' (decide_eq_false (by simp only [Z0, Z1, Z2]; omega)) | (with_reducible first | exact t0 | exact r0 | exact A6' _ | assumption) | exact r0 | ((repeat (first | exact VW.nil | refine c1 ?_ | refine c2 ?_ | refine c3 ?_)); done)
theorem fiB (h1 : a.size ≠ 0) (h2 : ¬ 20 < a.size) (h3 : b.size ≠ 0) (h4 : c = verB) (hb : b.size ≤ 1000000) (h5 : qIn fQl a = true) (h6 : qIn fQs b = false) : Tri Tryz.prog default fFst [sv s] [] (.tuple [rqV nil0 nil0 nilP nilB, bv false]) [] := by
 refine AA' (con := [(fRCt, DH' s 32 [a, b, c] 3)]) (hints := hFi a b c 0 false false false false false false false) (lc := [(fFst, 7, A4' fFst 7, lF1 a b c), (fFst, 12, A4' fFst 12, lF2x a b c)]) [] rfl (fun F hF => AP' (DG' F (by omega) h rfl)) (fun F hF => D3' (AW' (AE'.nothing F) OV' (fun _ _ => by
  simp only [RT.pick]
  exact VJ' a b c (by omega) h5) fun _ => by
  simp only [RT.pick]
  exact AQ' rfl rfl (A0' rfl (A0' rfl (A0' t0 A3'))) (A0' ⟨t0, t0, t0, t0, t0⟩ (A0' (DB' _ _) A3')) (A0' rfl (A0' rfl A3')) (A0' ⟨t0, t0, t0, t0, t0⟩ (A0' (DB' _ _) A3'))) (BE' (AW' (AE'.nothing F) OV' (fun _ _ => by
  simp only [RT.pick]
  exact f2_bad a b c hb h6) fun _ => by
  simp only [RT.pick]
  exact AQ' rfl rfl (A0' rfl (A0' rfl (A0' t0 A3'))) (A0' ⟨t0, t0, t0, t0, t0⟩ (A0' (DB' _ _) A3')) (A0' rfl (A0' t0 A3')) (A0' ⟨t0, t0, t0, t0, t0⟩ A3')))) fun F => ?_
 refine cv (fK' s a b c F) ⟨⟨?_, (AF' (vs' := [.tuple [rqV nil0 nil0 nilP nilB, bv false]]) (H' := []) [] rfl rfl (v0) trivial).fits rfl⟩⟩
 simp only [Cnd.holds, A2', Nat.blt_eq, true_and, and_true]
 and_intros
 all_goals first
  | exact A1' (by rw [LX' c, decide_eq_true h4]; rfl)
  | exact A1' (decide_eq_true (by simp only [Z0, Z1, Z2]; omega))
  | exact A1' (decide_eq_false (by simp only [Z0, Z1, Z2]; omega)) | (with_reducible first | exact t0 | exact r0 | exact A6' _ | assumption) | exact r0 | ((repeat (first | exact VW.nil | refine c1 ?_ | refine c2 ?_ | refine c3 ?_)); done)
theorem fiY (h1 : a.size ≠ 0) (h2 : ¬ 20 < a.size) (h3 : b.size ≠ 0) (h4 : c = verB) (hb : b.size ≤ 1000000) (h5 : qIn fQl a = true) (h6 : qIn fQs b = true) : Tri Tryz.prog default fFst [sv s] [] (.tuple [rqV a b nilP nilB, bv (GQ' b slB)]) [] := by
 refine AA' (con := [(fRCt, DH' s 32 [a, b, c] 3)]) (hints := hFi a b c (b.data.toList.getD 0 0) false false false false false false (GQ' b slB)) (lc := [(fFst, 7, A4' fFst 7, lF1 a b c), (fFst, 12, A4' fFst 12, lF2 a b c)]) [] rfl (fun F hF => AP' (DG' F (by omega) h rfl)) (fun F hF => D3' (AW' (AE'.nothing F) OV' (fun _ _ => by
  simp only [RT.pick]
  exact VJ' a b c (by omega) h5) fun _ => by
  simp only [RT.pick]
  exact AQ' rfl rfl (A0' rfl (A0' rfl (A0' t0 A3'))) (A0' ⟨t0, t0, t0, t0, t0⟩ (A0' (DB' _ _) A3')) (A0' rfl (A0' rfl A3')) (A0' ⟨t0, t0, t0, t0, t0⟩ (A0' (DB' _ _) A3'))) (BE' (AW' (AE'.nothing F) OV' (fun _ _ => by
  simp only [RT.pick]
  exact h8' a b c hb h6) fun _ => by
  simp only [RT.pick]
  exact AQ' rfl rfl (A0' rfl (A0' rfl (A0' t0 A3'))) (A0' ⟨t0, t0, t0, t0, t0⟩ (A0' (DB' _ _) A3')) (A0' rfl (A0' rfl A3')) (A0' ⟨t0, t0, t0, t0, t0⟩ (A0' (DB' _ _) A3'))))) fun F => ?_
 refine cv (fI' s a b c (b.data.toList.getD 0 0) (GQ' b slB) F) ⟨⟨?_, (AF' (vs' := [.tuple [rqV a b nilP nilB, bv (GQ' b slB)]]) (H' := []) [] rfl rfl (v0) trivial).fits rfl⟩⟩
 simp only [Cnd.holds, A2', Nat.blt_eq, true_and, and_true]
 and_intros
 all_goals first
  | exact A1' (by rw [LX' c, decide_eq_true h4]; rfl)
  | (rw [Z9' b (by omega)]; exact w0)
  | exact Nat.pos_of_ne_zero h3
  | exact A1' (decide_eq_true (by simp only [Z0, Z1, Z2]; omega))
  | exact A1' (decide_eq_false (by simp only [Z0, Z1, Z2]; omega)) | (with_reducible first | exact t0 | exact r0 | exact A6' _ | assumption) | exact r0 | ((repeat (first | exact VW.nil | refine c1 ?_ | refine c2 ?_ | refine c3 ?_)); done)
end
theorem PT' (s : ByteArray) (hs : s.size ≤ 8192) : ∃ m t q, Tri Tryz.prog default fFst [sv s] [] (.tuple [rqV m t nilP nilB, bv q]) [] ∧ lnB s = if q = true then some (m, t) else none := by
 by_cases h3 : ∃ a b c, cutB 32 s = [a, b, c]
 ·obtain ⟨a, b, c, h⟩ := h3
  have hl : lnB s = lnW a b c := by unfold lnB; rw [Q0', h]
  have hb : b.size ≤ 1000000 := Nat.le_trans (BP' (s := s) (t := spB) (by rw [Q0', h]; simp)) (by omega)
  rw [hl, lnW_eq]
  by_cases h1 : a.size = 0
  ·exact ⟨_, _, false, fi1 hs h h1, by rw [if_neg fun e => e.1.1 h1]; rfl⟩
  by_cases h2 : 20 < a.size
  ·exact ⟨_, _, false, fi2 hs h h1 h2, by rw [if_neg fun e => by have := e.1.2.1; omega]; rfl⟩
  by_cases h3 : b.size = 0
  ·refine ⟨_, _, false, fi3 hs h h1 h2 h3, ?_⟩
   rw [if_neg fun e => ?_]
   ·rfl
   ·have h4 := e.2.1
    unfold GQ' Lib.hasPrefix at h4
    have : b.data.toList = [] := List.eq_nil_of_length_eq_zero h3
    rw [this] at h4
    cases h4
  by_cases h4 : c = verB
  ·cases h5 : qIn fQl a with
   | false => exact ⟨_, _, false, fiA hs h h1 h2 h3 h4 hb h5, by rw [if_neg fun e => by have := e.1.2.2; cases this]; rfl⟩
   | true =>
    cases h6 : qIn fQs b with
    | false => exact ⟨_, _, false, fiB hs h h1 h2 h3 h4 hb h5 h6, by rw [if_neg fun e => by have := e.2.2.1; cases this]; rfl⟩
    | true =>
     refine ⟨a, b, GQ' b slB, fiY hs h h1 h2 h3 h4 hb h5 h6, ?_⟩
     by_cases h7 : GQ' b slB = true
     ·rw [if_pos h7, if_pos ⟨⟨h1, by omega, rfl⟩, h7, rfl, h4⟩]
     ·rw [if_neg h7, if_neg fun e => h7 e.2.1]
  ·exact ⟨_, _, false, fi4 hs h h1 h2 h3 h4, by rw [if_neg fun e => h4 e.2.2.2]; rfl⟩
 ·have hl : lnB s = none := by
   unfold lnB
   rw [Q0']
   split
   ·rename_i a b c h; exact absurd ⟨a, b, c, h⟩ h3
   ·rfl
  have hn : (cutB 32 s).length ≠ 3 := fun e => h3 (by
   match h : cutB 32 s with
   | [] => rw [h] at e; cases e
   | [_] => rw [h] at e; cases e
   | [_, _] => rw [h] at e; cases e
   | [a, b, c] => exact ⟨a, b, c, rfl⟩
   | _ :: _ :: _ :: _ :: _ => rw [h] at e; simp at e)
  refine ⟨nil0, nil0, false, ?_, by rw [hl]; rfl⟩
  refine AA' (con := [(fRCt, DH' s 32 (cutB 32 s) (cutB 32 s).length)]) (hints := hFi nil0 nil0 nil0 0 true false false false false true false) (lc := []) [] rfl (fun F hF => AP' (DG' F (by omega) rfl rfl)) (fun F hF => noL) fun F => ?_
  refine cv (fJ' s (cutB 32 s) (cutB 32 s).length F) ⟨⟨?_, (AF' (vs' := [.tuple [rqV nil0 nil0 nilP nilB, bv false]]) (H' := []) [] rfl rfl (v0) trivial).fits rfl⟩⟩
  have hne : (((cutB 32 s).length : Int) != Int.ofNat 3) = true := by rw [bne_iff_ne]; simp only [Z0]; omega
  simp only [Cnd.holds, A2', Nat.blt_eq, true_and, and_true]
  and_intros
  all_goals first
   | exact A1' hne | (with_reducible first | exact t0 | exact r0 | exact A6' _ | assumption) | exact r0 | ((repeat (first | exact VW.nil | refine c1 ?_ | refine c2 ?_ | refine c3 ?_)); done)
def wsQ (c : UInt8) : Bool := [(32 : UInt8), 9].contains c
def nmR (acc : List UInt8) : List UInt8 → Option (List UInt8 × List UInt8)
 | [] => none
 | c :: r => if c = 58 then some (acc, r) else if qN c = true then nmR (acc ++ [Lib.lowerB c]) r else none
def PY' (l : List UInt8) : List UInt8 := l.dropWhile wsQ
def EB' (l : List UInt8) : List UInt8 := (l.reverse.dropWhile wsQ).reverse
def S9' (l : List UInt8) : Option (List UInt8 × List UInt8) := match nmR [] l with
 | none => none
 | some (nm, v) => if nm = [] then none else if v.all qH = true then some (nm, EB' (PY' v)) else none
theorem RZ' : ∀ (u acc : List UInt8), (58 : UInt8) ∉ u → nmR acc u = none
 | [], acc, _ => rfl
 | c :: r, acc, h => by
  have hc : c ≠ 58 := fun e => h (by subst e; exact List.mem_cons_self)
  rw [nmR, if_neg hc]
  split
  ·exact RZ' r _ fun e => h (List.mem_cons_of_mem _ e)
  ·rfl
theorem OG' (v : List UInt8) : ∀ (u acc : List UInt8), (58 : UInt8) ∉ u → nmR acc (u ++ 58 :: v) = if u.all qN = true then some (acc ++ Lib.toLowerA u, v) else none
 | [], acc, _ => by
  rw [List.nil_append, nmR, if_pos rfl]
  simp [Lib.toLowerA]
 | c :: r, acc, h => by
  have hc : c ≠ 58 := fun e => h (by subst e; exact List.mem_cons_self)
  rw [List.cons_append, nmR, if_neg hc, List.all_cons]
  by_cases hq : qN c = true
  ·rw [if_pos hq, OG' v r _ fun e => h (List.mem_cons_of_mem _ e), hq, Bool.true_and]
   simp [Lib.toLowerA]
  ·rw [if_neg hq, if_neg]
   intro e
   rw [Bool.and_eq_true] at e
   exact hq e.1
theorem RC' {l : List UInt8} (h : l.all wsQ = true) : l.dropWhile wsQ = [] := by
 induction l with
 | nil => rfl
 | cons c r ih =>
  rw [List.all_cons, Bool.and_eq_true] at h
  rw [List.dropWhile_cons, if_pos h.1]
  exact ih h.2
theorem CV' {p : UInt8 → Bool} {c : UInt8} (hc : p c = false) : ∀ (a b : List UInt8), (a ++ c :: b).dropWhile p = (a.dropWhile p) ++ c :: b
 | [], b => by rw [List.nil_append, List.dropWhile_cons, if_neg (by rw [hc]; decide)]; rfl
 | x :: a, b => by
  rw [List.cons_append, List.dropWhile_cons, List.dropWhile_cons]
  split
  ·exact CV' hc a b
  ·rfl
theorem TS' (l : List UInt8) : Lib.trimS l [32, 9] = EB' (PY' l) := by
 show ((l.reverse.dropWhile wsQ).reverse).dropWhile wsQ = ((l.dropWhile wsQ).reverse.dropWhile wsQ).reverse
 by_cases h : l.all wsQ = true
 ·have h2 : l.reverse.all wsQ = true := by rw [List.all_reverse]; exact h
  rw [RC' h, RC' h2]
  rfl
 ·obtain ⟨x, hx, hq⟩ : ∃ x ∈ l, wsQ x = false := by
   have : l.all wsQ = false := eq_false_of_ne_true h
   rw [List.all_eq_false] at this
   obtain ⟨x, hx, hq⟩ := this
   exact ⟨x, hx, eq_false_of_ne_true hq⟩
  obtain ⟨a, b, rfl⟩ := List.append_of_mem hx
  rw [CV' hq a b, List.reverse_append, List.reverse_cons, List.append_assoc, List.singleton_append, CV' hq b.reverse a.reverse, List.reverse_append, List.reverse_cons, List.reverse_reverse, List.append_assoc, List.singleton_append, CV' hq a, List.reverse_append, List.reverse_cons, List.append_assoc, List.singleton_append, CV' hq b.reverse, List.reverse_append, List.reverse_cons, List.reverse_reverse, List.append_assoc, List.singleton_append]
theorem qIn_n' (s : ByteArray) : qIn fQn s = s.data.toList.all qN := qIn_n s
theorem VF' (L : Hds) (l : List UInt8) : hdrB L (tB l) = match S9' l with
  | none => none
  | some (k, v) => if (getP L (tB k)).isSome = true then none else if tB k = teB then none else some (tB k, tB v) := by
 unfold hdrB hdrW S9'
 by_cases hm : (58 : UInt8) ∈ l
 ·obtain ⟨u, v, rfl, hu⟩ := List.eq_append_cons_of_mem hm
  have hcut : Lib.cut (tB (u ++ 58 :: v)).data.toList coB.data.toList = (u, v, true) := by rw [BL']; exact VS' 58 u v hu
  have h1 : cut1 (tB (u ++ 58 :: v)) coB = tB u := by unfold cut1; rw [hcut]
  have h2 : cut2 (tB (u ++ 58 :: v)) coB = tB v := by unfold cut2; rw [hcut]
  have h3 : cutK (tB (u ++ 58 :: v)) coB = true := by unfold cutK; rw [hcut]
  rw [h1, h2, h3, OG' v u [] hu, List.nil_append, if_neg (by decide), qIn_n', qIn_h, BL', BL', BC']
  have hlow : lowB (tB u) = tB (Lib.toLowerA u) := by unfold lowB; rw [BL']
  have htr : BY' (tB v) wsB = tB (EB' (PY' v)) := by
   unfold BY'
   rw [BL', ← TS']
   rfl
  rw [hlow, htr]
  by_cases g1 : u.length = 0
  ·have : u = [] := List.eq_nil_of_length_eq_zero g1
   subst this
   rfl
  ·rw [if_neg g1]
   by_cases g2 : u.all qN = true
   ·rw [if_pos g2, if_neg (by rw [g2]; decide)]
    have hn : Lib.toLowerA u ≠ [] := fun e => g1 (by
     have := congrArg List.length e
     simpa [Lib.toLowerA] using this)
    simp only [if_neg hn]
    by_cases g3 : v.all qH = true
    ·simp only [g3, if_true]
     rw [if_neg (by decide)]
    ·rw [if_pos (eq_false_of_ne_true g3)]
     simp only [if_neg g3]
   ·rw [if_neg g2, if_pos (eq_false_of_ne_true g2)]
 ·have hk : cutK (tB l) coB = false := by
   unfold cutK Lib.cut
   rw [BL']
   have : Lib.index l coB.data.toList = -1 := H5' 58 l hm
   rw [this, if_neg (by decide)]
  rw [hk, if_pos rfl, RZ' l [] hm]
def nmX (acc : List UInt8) : List UInt8 → Option (List UInt8 × List UInt8)
 | [] => some (acc, [])
 | c :: r => if c = 58 then some (acc, c :: r) else if qN c = true then nmX (acc ++ [Lib.lowerB c]) r else none
theorem nmX_R : ∀ (l acc : List UInt8), nmR acc l = match nmX acc l with
  | none => none
  | some (a, []) => none
  | some (a, _ :: r) => some (a, r)
 | [], acc => rfl
 | c :: r, acc => by
  rw [nmR, nmX]
  by_cases hc : c = 58
  ·rw [if_pos hc, if_pos hc]
  ·rw [if_neg hc, if_neg hc]
   by_cases hq : qN c = true
   ·rw [if_pos hq, if_pos hq]
    exact nmX_R r _
   ·rw [if_neg hq, if_neg hq]
theorem QA' : ∀ {l acc a r : List UInt8}, nmX acc l = some (a, r) → r.length ≤ l.length
 | [], acc, a, r, h => by cases h; exact n0
 | c :: l, acc, a, r, h => by
  rw [nmX] at h
  split at h
  ·cases h; exact n0
  ·split at h
   ·have := QA' h
    rw [List.length_cons]; omega
   ·cases h
theorem RY' : ∀ {l acc a r : List UInt8} {c : UInt8}, nmX acc l = some (a, c :: r) → c = 58 ∧ l.drop (l.length - (r.length + 1)) = c :: r
 | [], acc, a, r, c, h => by cases h
 | d :: l, acc, a, r, c, h => by
  rw [nmX] at h
  split at h
  ·rename_i hd
   cases h
   refine ⟨hd, ?_⟩
   rw [List.length_cons, Nat.sub_self]; rfl
  ·split at h
   ·obtain ⟨q1, q2⟩ := RY' h
    have hl := QA' h
    rw [List.length_cons] at hl
    refine ⟨q1, ?_⟩
    rw [List.length_cons, show l.length + 1 - (r.length + 1) = (l.length - (r.length + 1)) + 1 by omega, List.drop_succ_cons]
    exact q2
   ·cases h
def numR (acc : Nat) : List UInt8 → Nat
 | [] => acc
 | c :: r => numR (acc * 10 + (c.toNat - 48)) r
theorem bS' {c : UInt8} (h : qD c = true) : 48 ≤ c.toNat ∧ c.toNat ≤ 57 := by
 unfold qD at h
 rw [Bool.and_eq_true, decide_eq_true_eq, decide_eq_true_eq] at h
 exact ⟨h.1, h.2⟩
theorem aS' : ∀ (l : List UInt8) (acc u : Nat), Lib.parseUint10 acc l = .ok u → u = numR acc l
 | [], acc, u, h => by
  rw [Lib.parseUint10] at h
  injection h with h
  rw [← h]; rfl
 | c :: r, acc, u, h => by
  rw [Lib.parseUint10] at h
  split at h
  ·split at h
   ·cases h
   ·split at h
    ·cases h
    ·exact aS' r _ u h
  ·cases h
theorem ZY' (v : ByteArray) (h0 : v.size ≠ 0) (h9 : v.size ≤ 9) (hq : v.data.toList.all qD = true) : LK' v = numR 0 v.data.toList := by
 have hl : v.data.toList.length = v.size := rfl
 obtain ⟨q1, q2⟩ := SI' v h0 h9 hq
 cases h : v.data.toList with
 | nil => rw [h] at hl; simp at hl; omega
 | cons c r =>
  rw [h] at q1 hq
  rw [List.all_cons, Bool.and_eq_true] at hq
  have hc := bS' hq.1
  unfold Lib.atoiAll at q1
  have e1 : ¬ (c.toNat = 43 ∨ c.toNat = 45) := by omega
  have e2 : ¬ (c.toNat = 45) := by omega
  simp only [if_neg e1, Lib.parseMag, if_neg (List.cons_ne_nil c r)] at q1
  obtain ⟨u, hp⟩ : ∃ u, Lib.parseUint10 0 (c :: r) = .ok u := by
   cases hp : Lib.parseUint10 0 (c :: r) <;> first | exact ⟨_, rfl⟩ | (rw [hp] at q1; cases q1)
  rw [hp] at q1
  simp only at q1
  have hu := aS' _ _ _ hp
  rw [← hu]
  split at q1
  ·cases q1
  ·split at q1
   ·cases q1
   ·injection q1 with q1
    omega
def lenR (v : List UInt8) : Option Nat := if (v.take 10).all qD = true then (if v.length < 1 then none else if 9 < v.length then none else some (numR 0 v)) else none
theorem V0' (L : Hds) : lenB L = match getP L clB with
  | none => some 0
  | some v => lenR v.data.toList := by
 unfold lenB lenR
 cases getP L clB with
 | none => rfl
 | some v =>
  simp only
  have hl : v.data.toList.length = v.size := rfl
  rw [hl, qIn_d]
  by_cases g1 : v.size = 0
  ·rw [if_pos g1]
   split
   ·rw [if_pos (by omega)]
   ·rfl
  ·rw [if_neg g1]
   by_cases g2 : 9 < v.size
   ·rw [if_pos g2]
    split
    ·rw [if_neg (by omega)]
    ·rfl
   ·rw [if_neg g2, List.take_of_length_le (by omega)]
    by_cases g3 : v.data.toList.all qD = true
    ·rw [if_neg (by rw [g3]; decide), if_pos g3, if_neg (by omega), if_neg g2, ZY' v g1 (by omega) g3]
    ·rw [if_pos (eq_false_of_ne_true g3), if_neg g3]
theorem nt_t {n k : Nat} (h : n ≠ k) : (((n : Nat) : Int) != Int.ofNat k) = true := by rw [bne_iff_ne]; simp only [Z0]; omega
theorem nt_f {n k : Nat} (h : n = k) : (((n : Nat) : Int) != Int.ofNat k) = false := by subst h; simp
theorem qe_t {n k : Nat} (h : n = k) : (((n : Nat) : Int) == Int.ofNat k) = true := by subst h; simp
theorem qe_f {n k : Nat} (h : n ≠ k) : (((n : Nat) : Int) == Int.ofNat k) = false := by rw [beq_eq_false_iff_ne]; simp only [Z0]; omega
theorem G0' (x : UInt8) : qLt x = decide (65 ≤ x.toNat ∧ x.toNat ≤ 90 ∨ 97 ≤ x.toNat ∧ x.toNat ≤ 122) := by
 have := DA' (p := fun x => qLt x == decide (65 ≤ x.toNat ∧ x.toNat ≤ 90 ∨ 97 ≤ x.toNat ∧ x.toNat ≤ 122)) (by decide +kernel) x
 exact beq_iff_eq.1 this
theorem IE' (x : UInt8) : qD x = decide (48 ≤ x.toNat ∧ x.toNat ≤ 57) := by
 have := DA' (p := fun x => qD x == decide (48 ≤ x.toNat ∧ x.toNat ≤ 57)) (by decide +kernel) x
 exact beq_iff_eq.1 this
theorem HF' (x : UInt8) : qN x = decide ((65 ≤ x.toNat ∧ x.toNat ≤ 90 ∨ 97 ≤ x.toNat ∧ x.toNat ≤ 122) ∨ (48 ≤ x.toNat ∧ x.toNat ≤ 57) ∨ x.toNat = 45) := by
 have := DA' (p := fun x => qN x == decide ((65 ≤ x.toNat ∧ x.toNat ≤ 90 ∨ 97 ≤ x.toNat ∧ x.toNat ≤ 122) ∨ (48 ≤ x.toNat ∧ x.toNat ≤ 57) ∨ x.toNat = 45)) (by decide +kernel) x
 exact beq_iff_eq.1 this
theorem M1' (x : UInt8) : qH x = decide (x.toNat = 9 ∨ 32 ≤ x.toNat ∧ x.toNat ≤ 126) := by
 have := DA' (p := fun x => qH x == decide (x.toNat = 9 ∨ 32 ≤ x.toNat ∧ x.toNat ≤ 126)) (by decide +kernel) x
 exact beq_iff_eq.1 this
theorem LS' (x : UInt8) : wsQ x = decide (x.toNat = 32 ∨ x.toNat = 9) := by
 have := DA' (p := fun x => wsQ x == decide (x.toNat = 32 ∨ x.toNat = 9)) (by decide +kernel) x
 exact beq_iff_eq.1 this
theorem L2' (x : UInt8) : x = 58 ↔ x.toNat = 58 := ⟨fun e => by rw [e]; rfl, fun e => UInt8.toNat_inj.1 e⟩
theorem JJ' {x : UInt8} (h : 65 ≤ x.toNat ∧ x.toNat ≤ 90) : IntKind.u8.wrap ((x.toNat : Int) + Int.ofNat 32) = ((Lib.lowerB x).toNat : Int) := by
 have := DA' (p := fun x => !decide (65 ≤ x.toNat ∧ x.toNat ≤ 90) || (IntKind.u8.wrap ((x.toNat : Int) + Int.ofNat 32) == ((Lib.lowerB x).toNat : Int))) (by decide +kernel) x
 rw [decide_eq_true h, Bool.not_true, Bool.false_or] at this
 exact beq_iff_eq.1 this
theorem M5' {x : UInt8} (h : ¬ (65 ≤ x.toNat ∧ x.toNat ≤ 90)) : Lib.lowerB x = x := by
 have := DA' (p := fun x => decide (65 ≤ x.toNat ∧ x.toNat ≤ 90) || (Lib.lowerB x == x)) (by decide +kernel) x
 rw [decide_eq_false h, Bool.false_or] at this
 exact beq_iff_eq.1 this
theorem N5' : ∀ args, RO (gG args) := by
 intro args
 unfold gG
 split
 ·exact RO.ret _
 ·exact RO.fail _
theorem HB' {a b : Int} (h : a = b) : Wk (AV.v (.int .u8 a)) (AV.v (.int .u8 b)) := by subst h; exact w0
theorem DF' {s : ByteArray} {i : Nat} (hi : i < s.size) : s.data.toList.drop i = s.data.toList.getD i 0 :: s.data.toList.drop (i + 1) := by
 have hi : i < s.data.toList.length := hi
 rw [List.drop_eq_getElem_cons hi]
 simp [List.getD_eq_getElem?_getD, List.getElem?_eq_getElem hi]
theorem DQ' {s : ByteArray} {i : Nat} (hi : s.size ≤ i) : s.data.toList.drop i = [] := List.drop_eq_nil_of_le hi
theorem H6' {s : ByteArray} {i : Nat} : (s.data.toList.drop i).length = s.size - i := by rw [List.length_drop]; rfl
structure G1S where
 A : List UInt8
 i : Nat
section
variable (s : ByteArray) (hs : s.size ≤ 8192)
include hs
theorem g1_ok {a rest : List UInt8} (h : nmX [] s.data.toList = some (a, rest)) : LTri Tryz.prog default (A4' fFld 4) (tms 0 133 (aG1 s 0 0)) (oG []) (.exit 0) (tms 0 133 (zG s a.length (s.size - rest.length))) (oG a) := by
 refine AS' (W := default) (g := fFld) (b := A4' fFld 4) (σ := {q : G1S // q.i ≤ s.size ∧ q.A.length ≤ q.i ∧ nmX q.A (s.data.toList.drop q.i) = some (a, rest)}) 133 (fun q => aG1 s q.1.A.length q.1.i) (fun q => oG q.1.A) (.exit 0) (zG s a.length (s.size - rest.length)) (oG a) (fun q => s.size - q.1.i) kG iG1 (by intro h; cases h) (fun _ => rfl) rfl ?_ ⟨⟨[], 0⟩, Nat.zero_le _, Nat.zero_le _, h⟩
 rintro ⟨⟨A, i⟩, hi, hA, hI⟩
 simp only at hi hA hI
 simp only
 by_cases hlt : i < s.size
 ·have hwi := AO' i (by omega)
  obtain ⟨x, hxe⟩ : ∃ x, s.data.toList.getD i 0 = x := ⟨_, rfl⟩
  have hby : Wk (AV.v (.int .u8 (s.data.toList.getD i 0).toNat)) (byv x) := by rw [hxe]; exact w0
  rw [DF' hlt, hxe, nmX] at hI
  have k1 := bR' (p := A.length) (P := A) rfl
  have k2 := Q5' (p := A.length) (P := A) rfl
  have b1 : ((A.length + 1) * 1).ble 140737488355328 = true := C6' (by omega)
  have b2 : (A.length + 1).ble 9223372036854775807 = true := C6' (by omega)
  have a1 : ∀ y : UInt8, List.take (A.length * 1) (List.drop 0 (rowV encB A)) ++ [AV.v (Value.int IntKind.u8 ↑y.toNat)] = rowV encB (A ++ [y]) := fun y => Q6' rfl [y]
  have hlen : ∀ y : UInt8, (A ++ [y]).length = A.length + 1 := fun y => by simp
  by_cases hc : x = 58
  ·rw [if_pos hc] at hI
   have hc' := (L2' x).1 hc
   obtain ⟨rfl, rfl⟩ : A = a ∧ x :: s.data.toList.drop (i + 1) = rest := by
    have := Option.some.inj hI
    exact ⟨(Prod.mk.inj this).1, (Prod.mk.inj this).2⟩
   have hii : s.size - (x :: s.data.toList.drop (i + 1)).length = i := by rw [List.length_cons, H6']; omega
   rw [hii]
   refine ⟨[], AB' [(fFld, 4, 3, hv (.lit true)), (fFld, 4, 7, h0v (byv x)), (fFld, 4, 8, hv (.lit false))], [], fun F hF => noC, fun _ _ => noL, fun F => ?_⟩
   refine cv (fD' s A x A.length i F) ⟨⟨?_, rfl, .inr ⟨rfl, [(1000, 1000)], by kernel_rfl, by kernel_rfl, ⟨w0, w0, w0, w0, w0, t0⟩, ⟨_, rfl, o0⟩, ⟨_, rfl, o0⟩, ⟨_, rfl, BW' rfl rfl⟩, t0⟩⟩⟩
   simp only [Cnd.holds, A2', Nat.blt_eq, true_and, and_true]
   and_intros
   all_goals first
    | exact hlt
    | exact hby
    | exact A1' (nt_t (by omega))
    | exact A1' (nt_f (by omega))
    | exact A1' (qe_t (by omega))
    | exact A1' (qe_f (by omega))
    | exact A1' (decide_eq_true (by simp only [Z0, Z1, Z2]; omega))
    | exact A1' (decide_eq_false (by simp only [Z0, Z1, Z2]; omega)) | (with_reducible first | exact t0 | exact r0 | exact A6' _ | assumption) | exact r0 | ((repeat (first | exact VW.nil | refine c1 ?_ | refine c2 ?_ | refine c3 ?_)); done)
  ·rw [if_neg hc] at hI
   have hc' : ¬ x.toNat = 58 := fun e => hc ((L2' x).2 e)
   by_cases hU : 65 ≤ x.toNat ∧ x.toNat ≤ 90
   ·have hq : qN x = true := by rw [HF']; exact decide_eq_true (by omega)
    have hl : qLt x = true := by rw [G0']; exact decide_eq_true (by omega)
    have hd : qD x = false := by rw [IE']; exact decide_eq_false (by omega)
    rw [if_pos hq] at hI
    refine ⟨[(fLtr, cW x true), (fDgt, cW x false)], hG1 x (Lib.lowerB x) i false false false false true true true, [], fun F hF => A5' (BU' (AE'.nothing F) J8' hl) (AP' (BU' (AE'.nothing F) JU' hd)), fun _ _ => noL, fun F => ?_⟩
    refine cv (UL' s A x (Lib.lowerB x) A.length i F) ⟨⟨?_, rfl, .inl ⟨rfl, ⟨⟨A ++ [(Lib.lowerB x)], i + 1⟩, hlt, by simp only [hlen]; omega, hI⟩, AR' hlt, [(1000, 1101)], ?_⟩⟩⟩
    ·simp only [Cnd.holds, k1, k2, b1, b2, Nat.blt_eq, true_and, and_true]
     and_intros
     all_goals first
      | exact AG' hwi
      | exact hlt
      | exact HB' (JJ' (by omega))
      | exact hby
      | exact A1' (nt_t (by omega))
      | exact A1' (nt_f (by omega))
      | exact A1' (qe_t (by omega))
      | exact A1' (qe_f (by omega))
      | exact A1' (decide_eq_true (by simp only [Z0, Z1, Z2]; omega))
      | exact A1' (decide_eq_false (by simp only [Z0, Z1, Z2]; omega)) | (with_reducible first | exact t0 | exact r0 | exact A6' _ | assumption) | exact r0 | ((repeat (first | exact VW.nil | refine c1 ?_ | refine c2 ?_ | refine c3 ?_)); done)
    ·simp only [hlen]
     exact ⟨by kernel_rfl, by kernel_rfl, ⟨w0, w0, w0, w0, w0, t0⟩, ⟨_, rfl, o0⟩, ⟨_, rfl, o0⟩, ⟨_, rfl, BW' (a1 _) rfl⟩, t0⟩
   by_cases hL : 97 ≤ x.toNat ∧ x.toNat ≤ 122
   ·have hq : qN x = true := by rw [HF']; exact decide_eq_true (by omega)
    have hl : qLt x = true := by rw [G0']; exact decide_eq_true (by omega)
    have hd : qD x = false := by rw [IE']; exact decide_eq_false (by omega)
    rw [if_pos hq] at hI
    rw [M5' (by omega)] at hI
    refine ⟨[(fLtr, cW x true), (fDgt, cW x false)], hG1 x x i false false false false true false false, [], fun F hF => A5' (BU' (AE'.nothing F) J8' hl) (AP' (BU' (AE'.nothing F) JU' hd)), fun _ _ => noL, fun F => ?_⟩
    refine cv (UM' s A x x A.length i F) ⟨⟨?_, rfl, .inl ⟨rfl, ⟨⟨A ++ [x], i + 1⟩, hlt, by simp only [hlen]; omega, hI⟩, AR' hlt, [(1000, 1101)], ?_⟩⟩⟩
    ·simp only [Cnd.holds, k1, k2, b1, b2, Nat.blt_eq, true_and, and_true]
     and_intros
     all_goals first
      | exact AG' hwi
      | exact hlt
      | exact HB' (JJ' (by omega))
      | exact hby
      | exact A1' (nt_t (by omega))
      | exact A1' (nt_f (by omega))
      | exact A1' (qe_t (by omega))
      | exact A1' (qe_f (by omega))
      | exact A1' (decide_eq_true (by simp only [Z0, Z1, Z2]; omega))
      | exact A1' (decide_eq_false (by simp only [Z0, Z1, Z2]; omega)) | (with_reducible first | exact t0 | exact r0 | exact A6' _ | assumption) | exact r0 | ((repeat (first | exact VW.nil | refine c1 ?_ | refine c2 ?_ | refine c3 ?_)); done)
    ·simp only [hlen]
     exact ⟨by kernel_rfl, by kernel_rfl, ⟨w0, w0, w0, w0, w0, t0⟩, ⟨_, rfl, o0⟩, ⟨_, rfl, o0⟩, ⟨_, rfl, BW' (a1 _) rfl⟩, t0⟩
   by_cases hD : 48 ≤ x.toNat ∧ x.toNat ≤ 57
   ·have hq : qN x = true := by rw [HF']; exact decide_eq_true (by omega)
    have hl : qLt x = false := by rw [G0']; exact decide_eq_false (by omega)
    have hd : qD x = true := by rw [IE']; exact decide_eq_true (by omega)
    rw [if_pos hq] at hI
    rw [M5' (by omega)] at hI
    refine ⟨[(fLtr, cW x false), (fDgt, cW x true)], hG1 x x i true false false false false false false, [], fun F hF => A5' (BU' (AE'.nothing F) J8' hl) (AP' (BU' (AE'.nothing F) JU' hd)), fun _ _ => noL, fun F => ?_⟩
    refine cv (UO' s A x x A.length i F) ⟨⟨?_, rfl, .inl ⟨rfl, ⟨⟨A ++ [x], i + 1⟩, hlt, by simp only [hlen]; omega, hI⟩, AR' hlt, [(1000, 1101)], ?_⟩⟩⟩
    ·simp only [Cnd.holds, k1, k2, b1, b2, Nat.blt_eq, true_and, and_true]
     and_intros
     all_goals first
      | exact AG' hwi
      | exact hlt
      | exact HB' (JJ' (by omega))
      | exact hby
      | exact A1' (nt_t (by omega))
      | exact A1' (nt_f (by omega))
      | exact A1' (qe_t (by omega))
      | exact A1' (qe_f (by omega))
      | exact A1' (decide_eq_true (by simp only [Z0, Z1, Z2]; omega))
      | exact A1' (decide_eq_false (by simp only [Z0, Z1, Z2]; omega)) | (with_reducible first | exact t0 | exact r0 | exact A6' _ | assumption) | exact r0 | ((repeat (first | exact VW.nil | refine c1 ?_ | refine c2 ?_ | refine c3 ?_)); done)
    ·simp only [hlen]
     exact ⟨by kernel_rfl, by kernel_rfl, ⟨w0, w0, w0, w0, w0, t0⟩, ⟨_, rfl, o0⟩, ⟨_, rfl, o0⟩, ⟨_, rfl, BW' (a1 _) rfl⟩, t0⟩
   by_cases hH : x.toNat = 45
   ·have hq : qN x = true := by rw [HF']; exact decide_eq_true (by omega)
    have hl : qLt x = false := by rw [G0']; exact decide_eq_false (by omega)
    have hd : qD x = false := by rw [IE']; exact decide_eq_false (by omega)
    rw [if_pos hq] at hI
    rw [M5' (by omega)] at hI
    refine ⟨[(fLtr, cW x false), (fDgt, cW x false)], hG1 x x i true true false false false false false, [], fun F hF => A5' (BU' (AE'.nothing F) J8' hl) (AP' (BU' (AE'.nothing F) JU' hd)), fun _ _ => noL, fun F => ?_⟩
    refine cv (UN' s A x x A.length i F) ⟨⟨?_, rfl, .inl ⟨rfl, ⟨⟨A ++ [x], i + 1⟩, hlt, by simp only [hlen]; omega, hI⟩, AR' hlt, [(1000, 1101)], ?_⟩⟩⟩
    ·simp only [Cnd.holds, k1, k2, b1, b2, Nat.blt_eq, true_and, and_true]
     and_intros
     all_goals first
      | exact AG' hwi
      | exact hlt
      | exact HB' (JJ' (by omega))
      | exact hby
      | exact A1' (nt_t (by omega))
      | exact A1' (nt_f (by omega))
      | exact A1' (qe_t (by omega))
      | exact A1' (qe_f (by omega))
      | exact A1' (decide_eq_true (by simp only [Z0, Z1, Z2]; omega))
      | exact A1' (decide_eq_false (by simp only [Z0, Z1, Z2]; omega)) | (with_reducible first | exact t0 | exact r0 | exact A6' _ | assumption) | exact r0 | ((repeat (first | exact VW.nil | refine c1 ?_ | refine c2 ?_ | refine c3 ?_)); done)
    ·simp only [hlen]
     exact ⟨by kernel_rfl, by kernel_rfl, ⟨w0, w0, w0, w0, w0, t0⟩, ⟨_, rfl, o0⟩, ⟨_, rfl, o0⟩, ⟨_, rfl, BW' (a1 _) rfl⟩, t0⟩
   have hq : ¬ qN x = true := by rw [HF', decide_eq_true_eq]; omega
   rw [if_neg hq] at hI
   cases hI
 ·rw [DQ' (by omega), nmX] at hI
  have hie : i = s.size := by omega
  obtain ⟨rfl, rfl⟩ : A = a ∧ [] = rest := by
   have := Option.some.inj hI
   exact ⟨(Prod.mk.inj this).1, (Prod.mk.inj this).2⟩
  rw [List.length_nil, Nat.sub_zero, ← hie]
  refine ⟨[], AB' [(fFld, 4, 3, hv (.lit false))], [], fun F hF => noC, fun _ _ => noL, fun F => ?_⟩
  refine cv (fC' s A A.length i F) ⟨⟨?_, rfl, .inr ⟨rfl, [(1000, 1000)], by kernel_rfl, by kernel_rfl, ⟨w0, w0, w0, w0, w0, t0⟩, ⟨_, rfl, o0⟩, ⟨_, rfl, o0⟩, ⟨_, rfl, BW' rfl rfl⟩, t0⟩⟩⟩
  simp only [Cnd.holds, A2', Nat.blt_eq, true_and, and_true]
  and_intros
  all_goals first
   | exact A1' (nt_t (by omega))
   | exact A1' (nt_f (by omega))
   | exact A1' (qe_t (by omega))
   | exact A1' (qe_f (by omega))
   | exact A1' (decide_eq_true (by simp only [Z0, Z1, Z2]; omega))
   | exact A1' (decide_eq_false (by simp only [Z0, Z1, Z2]; omega)) | (with_reducible first | exact t0 | exact r0 | exact A6' _ | assumption) | exact r0 | ((repeat (first | exact VW.nil | refine c1 ?_ | refine c2 ?_ | refine c3 ?_)); done)
theorem g1_bad (h : nmX [] s.data.toList = none) : LTri Tryz.prog default (A4' fFld 4) (tms 0 133 (aG1 s 0 0)) (oG []) .ret (tms 0 133 [(2, .ptr 0 0), (3, bv false)]) [(0, prO nil0 nil0)] := by
 refine AS' (W := default) (g := fFld) (b := A4' fFld 4) (σ := {q : G1S // q.i ≤ s.size ∧ q.A.length ≤ q.i ∧ nmX q.A (s.data.toList.drop q.i) = none}) 133 (fun q => aG1 s q.1.A.length q.1.i) (fun q => oG q.1.A) .ret [(2, .ptr 0 0), (3, bv false)] [(0, prO nil0 nil0)] (fun q => s.size - q.1.i) kG iG1 (by intro h; cases h) (fun _ => rfl) rfl ?_ ⟨⟨[], 0⟩, Nat.zero_le _, Nat.zero_le _, h⟩
 rintro ⟨⟨A, i⟩, hi, hA, hI⟩
 simp only at hi hA hI
 simp only
 by_cases hlt : i < s.size
 ·have hwi := AO' i (by omega)
  obtain ⟨x, hxe⟩ : ∃ x, s.data.toList.getD i 0 = x := ⟨_, rfl⟩
  have hby : Wk (AV.v (.int .u8 (s.data.toList.getD i 0).toNat)) (byv x) := by rw [hxe]; exact w0
  rw [DF' hlt, hxe, nmX] at hI
  have k1 := bR' (p := A.length) (P := A) rfl
  have k2 := Q5' (p := A.length) (P := A) rfl
  have b1 : ((A.length + 1) * 1).ble 140737488355328 = true := C6' (by omega)
  have b2 : (A.length + 1).ble 9223372036854775807 = true := C6' (by omega)
  have a1 : ∀ y : UInt8, List.take (A.length * 1) (List.drop 0 (rowV encB A)) ++ [AV.v (Value.int IntKind.u8 ↑y.toNat)] = rowV encB (A ++ [y]) := fun y => Q6' rfl [y]
  have hlen : ∀ y : UInt8, (A ++ [y]).length = A.length + 1 := fun y => by simp
  by_cases hc : x = 58
  ·rw [if_pos hc] at hI
   cases hI
  ·rw [if_neg hc] at hI
   have hc' : ¬ x.toNat = 58 := fun e => hc ((L2' x).2 e)
   by_cases hU : 65 ≤ x.toNat ∧ x.toNat ≤ 90
   ·have hq : qN x = true := by rw [HF']; exact decide_eq_true (by omega)
    have hl : qLt x = true := by rw [G0']; exact decide_eq_true (by omega)
    have hd : qD x = false := by rw [IE']; exact decide_eq_false (by omega)
    rw [if_pos hq] at hI
    refine ⟨[(fLtr, cW x true), (fDgt, cW x false)], hG1 x (Lib.lowerB x) i false false false false true true true, [], fun F hF => A5' (BU' (AE'.nothing F) J8' hl) (AP' (BU' (AE'.nothing F) JU' hd)), fun _ _ => noL, fun F => ?_⟩
    refine cv (UL' s A x (Lib.lowerB x) A.length i F) ⟨⟨?_, rfl, .inl ⟨rfl, ⟨⟨A ++ [(Lib.lowerB x)], i + 1⟩, hlt, by simp only [hlen]; omega, hI⟩, AR' hlt, [(1000, 1101)], ?_⟩⟩⟩
    ·simp only [Cnd.holds, k1, k2, b1, b2, Nat.blt_eq, true_and, and_true]
     and_intros
     all_goals first
      | exact AG' hwi
      | exact hlt
      | exact HB' (JJ' (by omega))
      | exact hby
      | exact A1' (nt_t (by omega))
      | exact A1' (nt_f (by omega))
      | exact A1' (qe_t (by omega))
      | exact A1' (qe_f (by omega))
      | exact A1' (decide_eq_true (by simp only [Z0, Z1, Z2]; omega))
      | exact A1' (decide_eq_false (by simp only [Z0, Z1, Z2]; omega)) | (with_reducible first | exact t0 | exact r0 | exact A6' _ | assumption) | exact r0 | ((repeat (first | exact VW.nil | refine c1 ?_ | refine c2 ?_ | refine c3 ?_)); done)
    ·simp only [hlen]
     exact ⟨by kernel_rfl, by kernel_rfl, ⟨w0, w0, w0, w0, w0, t0⟩, ⟨_, rfl, o0⟩, ⟨_, rfl, o0⟩, ⟨_, rfl, BW' (a1 _) rfl⟩, t0⟩
   by_cases hL : 97 ≤ x.toNat ∧ x.toNat ≤ 122
   ·have hq : qN x = true := by rw [HF']; exact decide_eq_true (by omega)
    have hl : qLt x = true := by rw [G0']; exact decide_eq_true (by omega)
    have hd : qD x = false := by rw [IE']; exact decide_eq_false (by omega)
    rw [if_pos hq] at hI
    rw [M5' (by omega)] at hI
    refine ⟨[(fLtr, cW x true), (fDgt, cW x false)], hG1 x x i false false false false true false false, [], fun F hF => A5' (BU' (AE'.nothing F) J8' hl) (AP' (BU' (AE'.nothing F) JU' hd)), fun _ _ => noL, fun F => ?_⟩
    refine cv (UM' s A x x A.length i F) ⟨⟨?_, rfl, .inl ⟨rfl, ⟨⟨A ++ [x], i + 1⟩, hlt, by simp only [hlen]; omega, hI⟩, AR' hlt, [(1000, 1101)], ?_⟩⟩⟩
    ·simp only [Cnd.holds, k1, k2, b1, b2, Nat.blt_eq, true_and, and_true]
     and_intros
     all_goals first
      | exact AG' hwi
      | exact hlt
      | exact HB' (JJ' (by omega))
      | exact hby
      | exact A1' (nt_t (by omega))
      | exact A1' (nt_f (by omega))
      | exact A1' (qe_t (by omega))
      | exact A1' (qe_f (by omega))
      | exact A1' (decide_eq_true (by simp only [Z0, Z1, Z2]; omega))
      | exact A1' (decide_eq_false (by simp only [Z0, Z1, Z2]; omega)) | (with_reducible first | exact t0 | exact r0 | exact A6' _ | assumption) | exact r0 | ((repeat (first | exact VW.nil | refine c1 ?_ | refine c2 ?_ | refine c3 ?_)); done)
    ·simp only [hlen]
     exact ⟨by kernel_rfl, by kernel_rfl, ⟨w0, w0, w0, w0, w0, t0⟩, ⟨_, rfl, o0⟩, ⟨_, rfl, o0⟩, ⟨_, rfl, BW' (a1 _) rfl⟩, t0⟩
   by_cases hD : 48 ≤ x.toNat ∧ x.toNat ≤ 57
   ·have hq : qN x = true := by rw [HF']; exact decide_eq_true (by omega)
    have hl : qLt x = false := by rw [G0']; exact decide_eq_false (by omega)
    have hd : qD x = true := by rw [IE']; exact decide_eq_true (by omega)
    rw [if_pos hq] at hI
    rw [M5' (by omega)] at hI
    refine ⟨[(fLtr, cW x false), (fDgt, cW x true)], hG1 x x i true false false false false false false, [], fun F hF => A5' (BU' (AE'.nothing F) J8' hl) (AP' (BU' (AE'.nothing F) JU' hd)), fun _ _ => noL, fun F => ?_⟩
    refine cv (UO' s A x x A.length i F) ⟨⟨?_, rfl, .inl ⟨rfl, ⟨⟨A ++ [x], i + 1⟩, hlt, by simp only [hlen]; omega, hI⟩, AR' hlt, [(1000, 1101)], ?_⟩⟩⟩
    ·simp only [Cnd.holds, k1, k2, b1, b2, Nat.blt_eq, true_and, and_true]
     and_intros
     all_goals first
      | exact AG' hwi
      | exact hlt
      | exact HB' (JJ' (by omega))
      | exact hby
      | exact A1' (nt_t (by omega))
      | exact A1' (nt_f (by omega))
      | exact A1' (qe_t (by omega))
      | exact A1' (qe_f (by omega))
      | exact A1' (decide_eq_true (by simp only [Z0, Z1, Z2]; omega))
      | exact A1' (decide_eq_false (by simp only [Z0, Z1, Z2]; omega)) | (with_reducible first | exact t0 | exact r0 | exact A6' _ | assumption) | exact r0 | ((repeat (first | exact VW.nil | refine c1 ?_ | refine c2 ?_ | refine c3 ?_)); done)
    ·simp only [hlen]
     exact ⟨by kernel_rfl, by kernel_rfl, ⟨w0, w0, w0, w0, w0, t0⟩, ⟨_, rfl, o0⟩, ⟨_, rfl, o0⟩, ⟨_, rfl, BW' (a1 _) rfl⟩, t0⟩
   by_cases hH : x.toNat = 45
   ·have hq : qN x = true := by rw [HF']; exact decide_eq_true (by omega)
    have hl : qLt x = false := by rw [G0']; exact decide_eq_false (by omega)
    have hd : qD x = false := by rw [IE']; exact decide_eq_false (by omega)
    rw [if_pos hq] at hI
    rw [M5' (by omega)] at hI
    refine ⟨[(fLtr, cW x false), (fDgt, cW x false)], hG1 x x i true true false false false false false, [], fun F hF => A5' (BU' (AE'.nothing F) J8' hl) (AP' (BU' (AE'.nothing F) JU' hd)), fun _ _ => noL, fun F => ?_⟩
    refine cv (UN' s A x x A.length i F) ⟨⟨?_, rfl, .inl ⟨rfl, ⟨⟨A ++ [x], i + 1⟩, hlt, by simp only [hlen]; omega, hI⟩, AR' hlt, [(1000, 1101)], ?_⟩⟩⟩
    ·simp only [Cnd.holds, k1, k2, b1, b2, Nat.blt_eq, true_and, and_true]
     and_intros
     all_goals first
      | exact AG' hwi
      | exact hlt
      | exact HB' (JJ' (by omega))
      | exact hby
      | exact A1' (nt_t (by omega))
      | exact A1' (nt_f (by omega))
      | exact A1' (qe_t (by omega))
      | exact A1' (qe_f (by omega))
      | exact A1' (decide_eq_true (by simp only [Z0, Z1, Z2]; omega))
      | exact A1' (decide_eq_false (by simp only [Z0, Z1, Z2]; omega)) | (with_reducible first | exact t0 | exact r0 | exact A6' _ | assumption) | exact r0 | ((repeat (first | exact VW.nil | refine c1 ?_ | refine c2 ?_ | refine c3 ?_)); done)
    ·simp only [hlen]
     exact ⟨by kernel_rfl, by kernel_rfl, ⟨w0, w0, w0, w0, w0, t0⟩, ⟨_, rfl, o0⟩, ⟨_, rfl, o0⟩, ⟨_, rfl, BW' (a1 _) rfl⟩, t0⟩
   have hq : ¬ qN x = true := by rw [HF', decide_eq_true_eq]; omega
   rw [if_neg hq] at hI
   have hl : qLt x = false := by rw [G0']; exact decide_eq_false (by omega)
   have hd : qD x = false := by rw [IE']; exact decide_eq_false (by omega)
   refine ⟨[(fLtr, cW x false), (fDgt, cW x false)], hG1 x x i true true true true false false false, [], fun F hF => A5' (BU' (AE'.nothing F) J8' hl) (AP' (BU' (AE'.nothing F) JU' hd)), fun _ _ => noL, fun F => ?_⟩
   refine cv (fB' s A x x A.length i F) ⟨⟨?_, rfl, .inr ⟨rfl, [], by kernel_rfl, by kernel_rfl, ⟨w0, w0, t0⟩, ⟨_, rfl, o0⟩, t0⟩⟩⟩
   simp only [Cnd.holds, A2', Nat.blt_eq, true_and, and_true]
   and_intros
   all_goals first
    | exact hlt
    | exact hby
    | exact A1' (nt_t (by omega))
    | exact A1' (nt_f (by omega))
    | exact A1' (qe_t (by omega))
    | exact A1' (qe_f (by omega))
    | exact A1' (decide_eq_true (by simp only [Z0, Z1, Z2]; omega))
    | exact A1' (decide_eq_false (by simp only [Z0, Z1, Z2]; omega)) | (with_reducible first | exact t0 | exact r0 | exact A6' _ | assumption) | exact r0 | ((repeat (first | exact VW.nil | refine c1 ?_ | refine c2 ?_ | refine c3 ?_)); done)
 ·rw [DQ' (by omega), nmX] at hI
  cases hI
theorem g2_ok (A : List UInt8) (k f : Nat) (hf : f ≤ s.size) (h : (s.data.toList.drop f).all qH = true) : LTri Tryz.prog default (A4' fFld 16) (tms 0 133 (aG2 s k f s.size f)) (oG A) (.exit 2) (tms 0 133 (aG3 s k f s.size)) (oG A) := by
 refine AS' (W := default) (g := fFld) (b := A4' fFld 16) (σ := {i : Nat // i ≤ s.size ∧ (s.data.toList.drop i).all qH = true}) 133 (fun i => aG2 s k f s.size i.1) (fun _ => oG A) (.exit 2) (aG3 s k f s.size) (oG A) (fun i => s.size - i.1) kG iG2 (by intro h; cases h) (fun _ => rfl) rfl ?_ ⟨f, hf, h⟩
 rintro ⟨i, hi, hI⟩
 simp only
 by_cases hlt : i < s.size
 ·have hwi := AO' i (by omega)
  obtain ⟨x, hxe⟩ : ∃ x, s.data.toList.getD i 0 = x := ⟨_, rfl⟩
  have hby : Wk (AV.v (.int .u8 (s.data.toList.getD i 0).toNat)) (byv x) := by rw [hxe]; exact w0
  rw [DF' hlt, hxe, List.all_cons] at hI
  by_cases hT : x.toNat = 9
  ·have hq : qH x = true := by rw [M1']; exact decide_eq_true (by omega)
   rw [hq, Bool.true_and] at hI
   refine ⟨[], hG2 x i false false false false, [], fun F hF => noC, fun _ _ => noL, fun F => ?_⟩
   refine cv (UJ' s A x k f s.size i F) ⟨⟨?_, rfl, .inl ⟨rfl, ⟨i + 1, hlt, hI⟩, AR' hlt, [(1000, 1000)], by kernel_rfl, by kernel_rfl, ⟨w0, w0, w0, w0, w0, w0, w0, t0⟩, ⟨_, rfl, o0⟩, ⟨_, rfl, o0⟩, ⟨_, rfl, BW' rfl rfl⟩, t0⟩⟩⟩
   simp only [Cnd.holds, A2', Nat.blt_eq, true_and, and_true]
   and_intros
   all_goals first
    | exact AG' hwi
    | exact hlt
    | exact hby
    | exact A1' (nt_t (by omega))
    | exact A1' (nt_f (by omega))
    | exact A1' (qe_t (by omega))
    | exact A1' (qe_f (by omega))
    | exact A1' (decide_eq_true (by simp only [Z0, Z1, Z2]; omega))
    | exact A1' (decide_eq_false (by simp only [Z0, Z1, Z2]; omega)) | (with_reducible first | exact t0 | exact r0 | exact A6' _ | assumption) | exact r0 | ((repeat (first | exact VW.nil | refine c1 ?_ | refine c2 ?_ | refine c3 ?_)); done)
  by_cases hO : 32 ≤ x.toNat ∧ x.toNat ≤ 126
  ·have hq : qH x = true := by rw [M1']; exact decide_eq_true (by omega)
   rw [hq, Bool.true_and] at hI
   refine ⟨[], hG2 x i true false false false, [], fun F hF => noC, fun _ _ => noL, fun F => ?_⟩
   refine cv (UK' s A x k f s.size i F) ⟨⟨?_, rfl, .inl ⟨rfl, ⟨i + 1, hlt, hI⟩, AR' hlt, [(1000, 1000)], by kernel_rfl, by kernel_rfl, ⟨w0, w0, w0, w0, w0, w0, w0, t0⟩, ⟨_, rfl, o0⟩, ⟨_, rfl, o0⟩, ⟨_, rfl, BW' rfl rfl⟩, t0⟩⟩⟩
   simp only [Cnd.holds, A2', Nat.blt_eq, true_and, and_true]
   and_intros
   all_goals first
    | exact AG' hwi
    | exact hlt
    | exact hby
    | exact A1' (nt_t (by omega))
    | exact A1' (nt_f (by omega))
    | exact A1' (qe_t (by omega))
    | exact A1' (qe_f (by omega))
    | exact A1' (decide_eq_true (by simp only [Z0, Z1, Z2]; omega))
    | exact A1' (decide_eq_false (by simp only [Z0, Z1, Z2]; omega)) | (with_reducible first | exact t0 | exact r0 | exact A6' _ | assumption) | exact r0 | ((repeat (first | exact VW.nil | refine c1 ?_ | refine c2 ?_ | refine c3 ?_)); done)
  have hq : qH x = false := by rw [M1']; exact decide_eq_false (by omega)
  rw [hq, Bool.false_and] at hI
  cases hI
 ·have hie : i = s.size := by omega
  refine ⟨[], AB' [(fFld, 16, 2, hv (.lit false))], [], fun F hF => noC, fun _ _ => noL, fun F => ?_⟩
  refine cv (f8' s A k f s.size i F) ⟨⟨?_, rfl, .inr ⟨rfl, [(1000, 1000)], by kernel_rfl, by kernel_rfl, ⟨w0, w0, w0, w0, w0, w0, t0⟩, ⟨_, rfl, o0⟩, ⟨_, rfl, o0⟩, ⟨_, rfl, BW' rfl rfl⟩, t0⟩⟩⟩
  simp only [Cnd.holds, A2', Nat.blt_eq, true_and, and_true]
  and_intros
  all_goals first
   | exact A1' (nt_t (by omega))
   | exact A1' (nt_f (by omega))
   | exact A1' (qe_t (by omega))
   | exact A1' (qe_f (by omega))
   | exact A1' (decide_eq_true (by simp only [Z0, Z1, Z2]; omega))
   | exact A1' (decide_eq_false (by simp only [Z0, Z1, Z2]; omega)) | (with_reducible first | exact t0 | exact r0 | exact A6' _ | assumption) | exact r0 | ((repeat (first | exact VW.nil | refine c1 ?_ | refine c2 ?_ | refine c3 ?_)); done)
theorem g2_bad (A : List UInt8) (k f : Nat) (hf : f ≤ s.size) (h : (s.data.toList.drop f).all qH = false) : LTri Tryz.prog default (A4' fFld 16) (tms 0 133 (aG2 s k f s.size f)) (oG A) .ret (tms 0 133 [(2, .ptr 0 0), (3, bv false)]) [(0, prO nil0 nil0)] := by
 refine AS' (W := default) (g := fFld) (b := A4' fFld 16) (σ := {i : Nat // i ≤ s.size ∧ (s.data.toList.drop i).all qH = false}) 133 (fun i => aG2 s k f s.size i.1) (fun _ => oG A) .ret [(2, .ptr 0 0), (3, bv false)] [(0, prO nil0 nil0)] (fun i => s.size - i.1) kG iG2 (by intro h; cases h) (fun _ => rfl) rfl ?_ ⟨f, hf, h⟩
 rintro ⟨i, hi, hI⟩
 simp only
 by_cases hlt : i < s.size
 ·have hwi := AO' i (by omega)
  obtain ⟨x, hxe⟩ : ∃ x, s.data.toList.getD i 0 = x := ⟨_, rfl⟩
  have hby : Wk (AV.v (.int .u8 (s.data.toList.getD i 0).toNat)) (byv x) := by rw [hxe]; exact w0
  rw [DF' hlt, hxe, List.all_cons] at hI
  by_cases hT : x.toNat = 9
  ·have hq : qH x = true := by rw [M1']; exact decide_eq_true (by omega)
   rw [hq, Bool.true_and] at hI
   refine ⟨[], hG2 x i false false false false, [], fun F hF => noC, fun _ _ => noL, fun F => ?_⟩
   refine cv (UJ' s A x k f s.size i F) ⟨⟨?_, rfl, .inl ⟨rfl, ⟨i + 1, hlt, hI⟩, AR' hlt, [(1000, 1000)], by kernel_rfl, by kernel_rfl, ⟨w0, w0, w0, w0, w0, w0, w0, t0⟩, ⟨_, rfl, o0⟩, ⟨_, rfl, o0⟩, ⟨_, rfl, BW' rfl rfl⟩, t0⟩⟩⟩
   simp only [Cnd.holds, A2', Nat.blt_eq, true_and, and_true]
   and_intros
   all_goals first
    | exact AG' hwi
    | exact hlt
    | exact hby
    | exact A1' (nt_t (by omega))
    | exact A1' (nt_f (by omega))
    | exact A1' (qe_t (by omega))
    | exact A1' (qe_f (by omega))
    | exact A1' (decide_eq_true (by simp only [Z0, Z1, Z2]; omega))
    | exact A1' (decide_eq_false (by simp only [Z0, Z1, Z2]; omega)) | (with_reducible first | exact t0 | exact r0 | exact A6' _ | assumption) | exact r0 | ((repeat (first | exact VW.nil | refine c1 ?_ | refine c2 ?_ | refine c3 ?_)); done)
  by_cases hO : 32 ≤ x.toNat ∧ x.toNat ≤ 126
  ·have hq : qH x = true := by rw [M1']; exact decide_eq_true (by omega)
   rw [hq, Bool.true_and] at hI
   refine ⟨[], hG2 x i true false false false, [], fun F hF => noC, fun _ _ => noL, fun F => ?_⟩
   refine cv (UK' s A x k f s.size i F) ⟨⟨?_, rfl, .inl ⟨rfl, ⟨i + 1, hlt, hI⟩, AR' hlt, [(1000, 1000)], by kernel_rfl, by kernel_rfl, ⟨w0, w0, w0, w0, w0, w0, w0, t0⟩, ⟨_, rfl, o0⟩, ⟨_, rfl, o0⟩, ⟨_, rfl, BW' rfl rfl⟩, t0⟩⟩⟩
   simp only [Cnd.holds, A2', Nat.blt_eq, true_and, and_true]
   and_intros
   all_goals first
    | exact AG' hwi
    | exact hlt
    | exact hby
    | exact A1' (nt_t (by omega))
    | exact A1' (nt_f (by omega))
    | exact A1' (qe_t (by omega))
    | exact A1' (qe_f (by omega))
    | exact A1' (decide_eq_true (by simp only [Z0, Z1, Z2]; omega))
    | exact A1' (decide_eq_false (by simp only [Z0, Z1, Z2]; omega)) | (with_reducible first | exact t0 | exact r0 | exact A6' _ | assumption) | exact r0 | ((repeat (first | exact VW.nil | refine c1 ?_ | refine c2 ?_ | refine c3 ?_)); done)
  have hq : qH x = false := by rw [M1']; exact decide_eq_false (by omega)
  rw [hq, Bool.false_and] at hI
  by_cases hA2 : x.toNat < 32
  ·refine ⟨[], hG2 x i true true false true, [], fun F hF => noC, fun _ _ => noL, fun F => ?_⟩
   refine cv (fA' s A x k f s.size i F) ⟨⟨?_, rfl, .inr ⟨rfl, [], by kernel_rfl, by kernel_rfl, ⟨w0, w0, t0⟩, ⟨_, rfl, o0⟩, t0⟩⟩⟩
   simp only [Cnd.holds, A2', Nat.blt_eq, true_and, and_true]
   and_intros
   all_goals first
    | exact AG' hwi
    | exact hlt
    | exact hby
    | exact A1' (nt_t (by omega))
    | exact A1' (nt_f (by omega))
    | exact A1' (qe_t (by omega))
    | exact A1' (qe_f (by omega))
    | exact A1' (decide_eq_true (by simp only [Z0, Z1, Z2]; omega))
    | exact A1' (decide_eq_false (by simp only [Z0, Z1, Z2]; omega)) | (with_reducible first | exact t0 | exact r0 | exact A6' _ | assumption) | exact r0 | ((repeat (first | exact VW.nil | refine c1 ?_ | refine c2 ?_ | refine c3 ?_)); done)
  ·refine ⟨[], hG2 x i true false true true, [], fun F hF => noC, fun _ _ => noL, fun F => ?_⟩
   refine cv (f9' s A x k f s.size i F) ⟨⟨?_, rfl, .inr ⟨rfl, [], by kernel_rfl, by kernel_rfl, ⟨w0, w0, t0⟩, ⟨_, rfl, o0⟩, t0⟩⟩⟩
   simp only [Cnd.holds, A2', Nat.blt_eq, true_and, and_true]
   and_intros
   all_goals first
    | exact AG' hwi
    | exact hlt
    | exact hby
    | exact A1' (nt_t (by omega))
    | exact A1' (nt_f (by omega))
    | exact A1' (qe_t (by omega))
    | exact A1' (qe_f (by omega))
    | exact A1' (decide_eq_true (by simp only [Z0, Z1, Z2]; omega))
    | exact A1' (decide_eq_false (by simp only [Z0, Z1, Z2]; omega)) | (with_reducible first | exact t0 | exact r0 | exact A6' _ | assumption) | exact r0 | ((repeat (first | exact VW.nil | refine c1 ?_ | refine c2 ?_ | refine c3 ?_)); done)
 ·have hie : i = s.size := by omega
  rw [DQ' (by omega)] at hI
  cases hI
theorem g3_ok (A : List UInt8) (k f : Nat) (hf : f ≤ s.size) {g : Nat} (hg : g ≤ s.size) (h : PY' (s.data.toList.drop f) = s.data.toList.drop g) : LTri Tryz.prog default (A4' fFld 20) (tms 0 133 (aG3 s k f s.size)) (oG A) (.exit 4) (tms 0 133 (aG3 s k g s.size)) (oG A) := by
 refine AS' (W := default) (g := fFld) (b := A4' fFld 20) (σ := {i : Nat // i ≤ s.size ∧ PY' (s.data.toList.drop i) = s.data.toList.drop g}) 133 (fun i => aG3 s k i.1 s.size) (fun _ => oG A) (.exit 4) (aG3 s k g s.size) (oG A) (fun i => s.size - i.1) kG iG3 (by intro h; cases h) (fun _ => rfl) rfl ?_ ⟨f, hf, h⟩
 rintro ⟨i, hi, hI⟩
 simp only
 have fin : s.data.toList.drop i = s.data.toList.drop g → i = g := fun e => by
  have := congrArg List.length e
  rw [H6', H6'] at this
  omega
 by_cases hlt : i < s.size
 ·have hwi := AO' i (by omega)
  obtain ⟨x, hxe⟩ : ∃ x, s.data.toList.getD i 0 = x := ⟨_, rfl⟩
  have hby : Wk (AV.v (.int .u8 (s.data.toList.getD i 0).toNat)) (byv x) := by rw [hxe]; exact w0
  rw [DF' hlt, hxe] at hI
  unfold PY' at hI
  rw [List.dropWhile_cons] at hI
  by_cases hS : x.toNat = 32
  ·have hq : wsQ x = true := by rw [LS']; exact decide_eq_true (by omega)
   rw [if_pos hq] at hI
   refine ⟨[], hG3 x i true false true, [], fun F hF => noC, fun _ _ => noL, fun F => ?_⟩
   refine cv (f5' s A x k i s.size F) ⟨⟨?_, rfl, .inl ⟨rfl, ⟨i + 1, hlt, hI⟩, AR' hlt, [(1000, 1000)], by kernel_rfl, by kernel_rfl, ⟨w0, w0, w0, w0, w0, w0, t0⟩, ⟨_, rfl, o0⟩, ⟨_, rfl, o0⟩, ⟨_, rfl, BW' rfl rfl⟩, t0⟩⟩⟩
   simp only [Cnd.holds, A2', Nat.blt_eq, true_and, and_true]
   and_intros
   all_goals first
    | exact AG' hwi
    | exact hlt
    | exact hby
    | exact A1' (nt_t (by omega))
    | exact A1' (nt_f (by omega))
    | exact A1' (qe_t (by omega))
    | exact A1' (qe_f (by omega))
    | exact A1' (decide_eq_true (by simp only [Z0, Z1, Z2]; omega))
    | exact A1' (decide_eq_false (by simp only [Z0, Z1, Z2]; omega)) | (with_reducible first | exact t0 | exact r0 | exact A6' _ | assumption) | exact r0 | ((repeat (first | exact VW.nil | refine c1 ?_ | refine c2 ?_ | refine c3 ?_)); done)
  by_cases hT : x.toNat = 9
  ·have hq : wsQ x = true := by rw [LS']; exact decide_eq_true (by omega)
   rw [if_pos hq] at hI
   refine ⟨[], hG3 x i false true true, [], fun F hF => noC, fun _ _ => noL, fun F => ?_⟩
   refine cv (f4' s A x k i s.size F) ⟨⟨?_, rfl, .inl ⟨rfl, ⟨i + 1, hlt, hI⟩, AR' hlt, [(1000, 1000)], by kernel_rfl, by kernel_rfl, ⟨w0, w0, w0, w0, w0, w0, t0⟩, ⟨_, rfl, o0⟩, ⟨_, rfl, o0⟩, ⟨_, rfl, BW' rfl rfl⟩, t0⟩⟩⟩
   simp only [Cnd.holds, A2', Nat.blt_eq, true_and, and_true]
   and_intros
   all_goals first
    | exact AG' hwi
    | exact hlt
    | exact hby
    | exact A1' (nt_t (by omega))
    | exact A1' (nt_f (by omega))
    | exact A1' (qe_t (by omega))
    | exact A1' (qe_f (by omega))
    | exact A1' (decide_eq_true (by simp only [Z0, Z1, Z2]; omega))
    | exact A1' (decide_eq_false (by simp only [Z0, Z1, Z2]; omega)) | (with_reducible first | exact t0 | exact r0 | exact A6' _ | assumption) | exact r0 | ((repeat (first | exact VW.nil | refine c1 ?_ | refine c2 ?_ | refine c3 ?_)); done)
  have hq : ¬ wsQ x = true := by rw [LS', decide_eq_true_eq]; omega
  rw [if_neg hq, ← hxe, ← DF' hlt] at hI
  have hig := fin hI
  subst hig
  refine ⟨[], hG3 x i false false false, [], fun F hF => noC, fun _ _ => noL, fun F => ?_⟩
  refine cv (f6' s A x k i s.size F) ⟨⟨?_, rfl, .inr ⟨rfl, [(1000, 1000)], by kernel_rfl, by kernel_rfl, ⟨w0, w0, w0, w0, w0, w0, t0⟩, ⟨_, rfl, o0⟩, ⟨_, rfl, o0⟩, ⟨_, rfl, BW' rfl rfl⟩, t0⟩⟩⟩
  simp only [Cnd.holds, A2', Nat.blt_eq, true_and, and_true]
  and_intros
  all_goals first
   | exact AG' hwi
   | exact hlt
   | exact hby
   | exact A1' (nt_t (by omega))
   | exact A1' (nt_f (by omega))
   | exact A1' (qe_t (by omega))
   | exact A1' (qe_f (by omega))
   | exact A1' (decide_eq_true (by simp only [Z0, Z1, Z2]; omega))
   | exact A1' (decide_eq_false (by simp only [Z0, Z1, Z2]; omega)) | (with_reducible first | exact t0 | exact r0 | exact A6' _ | assumption) | exact r0 | ((repeat (first | exact VW.nil | refine c1 ?_ | refine c2 ?_ | refine c3 ?_)); done)
 ·rw [DQ' (show s.size ≤ i by omega)] at hI
  have hI : [] = s.data.toList.drop g := hI
  have hig : i = g := fin (by rw [DQ' (show s.size ≤ i by omega)]; exact hI)
  subst hig
  refine ⟨[], AB' [(fFld, 20, 2, hv (.lit false))], [], fun F hF => noC, fun _ _ => noL, fun F => ?_⟩
  refine cv (f7' s A k i s.size F) ⟨⟨?_, rfl, .inr ⟨rfl, [(1000, 1000)], by kernel_rfl, by kernel_rfl, ⟨w0, w0, w0, w0, w0, w0, t0⟩, ⟨_, rfl, o0⟩, ⟨_, rfl, o0⟩, ⟨_, rfl, BW' rfl rfl⟩, t0⟩⟩⟩
  simp only [Cnd.holds, A2', Nat.blt_eq, true_and, and_true]
  and_intros
  all_goals first
   | exact A1' (nt_t (by omega))
   | exact A1' (nt_f (by omega))
   | exact A1' (qe_t (by omega))
   | exact A1' (qe_f (by omega))
   | exact A1' (decide_eq_true (by simp only [Z0, Z1, Z2]; omega))
   | exact A1' (decide_eq_false (by simp only [Z0, Z1, Z2]; omega)) | (with_reducible first | exact t0 | exact r0 | exact A6' _ | assumption) | exact r0 | ((repeat (first | exact VW.nil | refine c1 ?_ | refine c2 ?_ | refine c3 ?_)); done)
omit hs in
theorem SW' (l : List UInt8) (c : UInt8) : EB' (l ++ [c]) = if wsQ c = true then EB' l else l ++ [c] := by
 unfold EB'
 rw [List.reverse_append, List.reverse_singleton, List.singleton_append, List.dropWhile_cons]
 split
 ·rfl
 ·rw [List.reverse_cons, List.reverse_reverse]
theorem g4_ok (A : List UInt8) (k f : Nat) (hf : f ≤ s.size) {R : List UInt8} (h : EB' (s.data.toList.drop f) = R) : LTri Tryz.prog default (A4' fFld 22) (tms 0 133 (aG3 s k f s.size)) (oG A) (.exit 6) (tms 0 133 (aG3 s k f (f + R.length))) (oG A) := by
 have h0 : EB' ((s.data.toList.drop f).take (s.size - f)) = R := by rw [List.take_of_length_le (by rw [H6']; exact n0)]; exact h
 refine AS' (W := default) (g := fFld) (b := A4' fFld 22) (σ := {t : Nat // f ≤ t ∧ t ≤ s.size ∧ EB' ((s.data.toList.drop f).take (t - f)) = R}) 133 (fun t => aG3 s k f t.1) (fun _ => oG A) (.exit 6) (aG3 s k f (f + R.length)) (oG A) (fun t => t.1) kG iG3 (by intro h; cases h) (fun _ => rfl) rfl ?_ ⟨s.size, hf, n0, h0⟩
 rintro ⟨t, hft, hts, hI⟩
 simp only
 have lenT : ((s.data.toList.drop f).take (t - f)).length = t - f := by rw [List.length_take, H6']; omega
 by_cases hlt : f < t
 ·obtain ⟨t, rfl⟩ : ∃ u, t = u + 1 := ⟨t - 1, by omega⟩
  have htt : t < s.size := by omega
  have hws := CP' (a := t + 1) (b := 1) (by omega) (by omega)
  rw [Nat.add_sub_cancel] at hws
  obtain ⟨x, hxe⟩ : ∃ x, s.data.toList.getD t 0 = x := ⟨_, rfl⟩
  have hby : Wk (AV.v (.int .u8 (s.data.toList.getD t 0).toNat)) (byv x) := by rw [hxe]; exact w0
  have hsn : (s.data.toList.drop f).take (t + 1 - f) = (s.data.toList.drop f).take (t - f) ++ [x] := by
   rw [show t + 1 - f = (t - f) + 1 by omega, List.take_add_one]
   congr 1
   rw [List.getElem?_drop, show f + (t - f) = t by omega, ← hxe]
   have : t < s.data.toList.length := htt
   simp [List.getD_eq_getElem?_getD, List.getElem?_eq_getElem this]
  have hI2 := hI
  rw [hsn, SW'] at hI
  by_cases hS : x.toNat = 32
  ·have hq : wsQ x = true := by rw [LS']; exact decide_eq_true (by omega)
   rw [if_pos hq] at hI
   refine ⟨[], hG4 x t true false true, [], fun F hF => noC, fun _ _ => noL, fun F => ?_⟩
   refine cv (f1' s A x k f t F) ⟨⟨?_, rfl, .inl ⟨rfl, ⟨t, by omega, by omega, hI⟩, Nat.lt_succ_self t, [(1000, 1000)], by kernel_rfl, by kernel_rfl, ⟨w0, w0, w0, w0, w0, w0, t0⟩, ⟨_, rfl, o0⟩, ⟨_, rfl, o0⟩, ⟨_, rfl, BW' rfl rfl⟩, t0⟩⟩⟩
   simp only [Cnd.holds, A2', Nat.blt_eq, true_and, and_true]
   and_intros
   all_goals first
    | exact AG' hws
    | exact htt
    | exact hby
    | exact A1' (nt_t (by omega))
    | exact A1' (nt_f (by omega))
    | exact A1' (qe_t (by omega))
    | exact A1' (qe_f (by omega))
    | exact A1' (decide_eq_true (by simp only [Z0, Z1, Z2]; omega))
    | exact A1' (decide_eq_false (by simp only [Z0, Z1, Z2]; omega)) | (with_reducible first | exact t0 | exact r0 | exact A6' _ | assumption) | exact r0 | ((repeat (first | exact VW.nil | refine c1 ?_ | refine c2 ?_ | refine c3 ?_)); done)
  by_cases hT : x.toNat = 9
  ·have hq : wsQ x = true := by rw [LS']; exact decide_eq_true (by omega)
   rw [if_pos hq] at hI
   refine ⟨[], hG4 x t false true true, [], fun F hF => noC, fun _ _ => noL, fun F => ?_⟩
   refine cv (f0' s A x k f t F) ⟨⟨?_, rfl, .inl ⟨rfl, ⟨t, by omega, by omega, hI⟩, Nat.lt_succ_self t, [(1000, 1000)], by kernel_rfl, by kernel_rfl, ⟨w0, w0, w0, w0, w0, w0, t0⟩, ⟨_, rfl, o0⟩, ⟨_, rfl, o0⟩, ⟨_, rfl, BW' rfl rfl⟩, t0⟩⟩⟩
   simp only [Cnd.holds, A2', Nat.blt_eq, true_and, and_true]
   and_intros
   all_goals first
    | exact AG' hws
    | exact htt
    | exact hby
    | exact A1' (nt_t (by omega))
    | exact A1' (nt_f (by omega))
    | exact A1' (qe_t (by omega))
    | exact A1' (qe_f (by omega))
    | exact A1' (decide_eq_true (by simp only [Z0, Z1, Z2]; omega))
    | exact A1' (decide_eq_false (by simp only [Z0, Z1, Z2]; omega)) | (with_reducible first | exact t0 | exact r0 | exact A6' _ | assumption) | exact r0 | ((repeat (first | exact VW.nil | refine c1 ?_ | refine c2 ?_ | refine c3 ?_)); done)
  have hq : ¬ wsQ x = true := by rw [LS', decide_eq_true_eq]; omega
  rw [if_neg hq, ← hsn] at hI
  have hRl : f + R.length = t + 1 := by rw [← hI, lenT]; omega
  rw [hRl]
  refine ⟨[], hG4 x t false false false, [], fun F hF => noC, fun _ _ => noL, fun F => ?_⟩
  refine cv (f2' s A x k f t F) ⟨⟨?_, rfl, .inr ⟨rfl, [(1000, 1000)], by kernel_rfl, by kernel_rfl, ⟨w0, w0, w0, w0, w0, w0, t0⟩, ⟨_, rfl, o0⟩, ⟨_, rfl, o0⟩, ⟨_, rfl, BW' rfl rfl⟩, t0⟩⟩⟩
  simp only [Cnd.holds, A2', Nat.blt_eq, true_and, and_true]
  and_intros
  all_goals first
   | exact AG' hws
   | exact htt
   | exact hby
   | exact A1' (nt_t (by omega))
   | exact A1' (nt_f (by omega))
   | exact A1' (qe_t (by omega))
   | exact A1' (qe_f (by omega))
   | exact A1' (decide_eq_true (by simp only [Z0, Z1, Z2]; omega))
   | exact A1' (decide_eq_false (by simp only [Z0, Z1, Z2]; omega)) | (with_reducible first | exact t0 | exact r0 | exact A6' _ | assumption) | exact r0 | ((repeat (first | exact VW.nil | refine c1 ?_ | refine c2 ?_ | refine c3 ?_)); done)
 ·have htf : t = f := by omega
  subst htf
  rw [Nat.sub_self, List.take_zero] at hI
  have hI : ([] : List UInt8) = R := hI
  subst hI
  refine ⟨[], AB' [(fFld, 22, 2, hv (.lit false))], [], fun F hF => noC, fun _ _ => noL, fun F => ?_⟩
  refine cv (f3' s A k t t F) ⟨⟨?_, rfl, .inr ⟨rfl, [(1000, 1000)], by kernel_rfl, by kernel_rfl, ⟨w0, w0, w0, w0, w0, w0, t0⟩, ⟨_, rfl, o0⟩, ⟨_, rfl, o0⟩, ⟨_, rfl, BW' rfl rfl⟩, t0⟩⟩⟩
  simp only [Cnd.holds, A2', Nat.blt_eq, true_and, and_true]
  and_intros
  all_goals first
   | exact A1' (nt_t (by omega))
   | exact A1' (nt_f (by omega))
   | exact A1' (qe_t (by omega))
   | exact A1' (qe_f (by omega))
   | exact A1' (decide_eq_true (by simp only [Z0, Z1, Z2]; omega))
   | exact A1' (decide_eq_false (by simp only [Z0, Z1, Z2]; omega)) | (with_reducible first | exact t0 | exact r0 | exact A6' _ | assumption) | exact r0 | ((repeat (first | exact VW.nil | refine c1 ?_ | refine c2 ?_ | refine c3 ?_)); done)
end
theorem nmX_A : ∀ {l acc a r : List UInt8}, nmX acc l = some (a, r) → a.length ≤ acc.length + l.length
 | [], acc, a, r, h => by cases h; simp
 | c :: l, acc, a, r, h => by
  rw [nmX] at h
  split at h
  ·cases h; simp
  ·split at h
   ·have := nmX_A h
    simp only [List.length_append, List.length_cons, List.length_nil] at this ⊢
    omega
   ·cases h
theorem E4' (p : UInt8 → Bool) : ∀ l : List UInt8, ∃ m, l.dropWhile p = l.drop m
 | [] => ⟨0, rfl⟩
 | c :: l => by
  rw [List.dropWhile_cons]
  split
  ·obtain ⟨m, hm⟩ := E4' p l
   exact ⟨m + 1, by rw [hm]; rfl⟩
  ·exact ⟨0, rfl⟩
theorem SV' (l : List UInt8) : l.take (EB' l).length = EB' l ∧ (EB' l).length ≤ l.length := by
 unfold EB'
 obtain ⟨m, hm⟩ := E4' wsQ l.reverse
 rw [hm, List.length_reverse, List.length_drop, List.length_reverse]
 refine ⟨?_, by omega⟩
 rw [List.drop_reverse, List.reverse_reverse]
theorem WZ' (s : ByteArray) (hs : s.size ≤ 8192) : ∃ k v q, Tri Tryz.prog default fFld [sv s] [] (.tuple [.agg [sv k, sv v], bv q]) [] ∧ S9' s.data.toList = if q = true then some (k.data.toList, v.data.toList) else none := by
 have hsl : s.data.toList.length = s.size := rfl
 unfold S9'
 rw [nmX_R]
 cases hx : nmX [] s.data.toList with
 | none =>
  refine ⟨nil0, nil0, false, ?_, rfl⟩
  refine AA' (con := []) (hints := hFd 0 false false false nil0 nil0) (lc := [(fFld, 4, A4' fFld 4, lG1x s)]) kFd rfl (fun F hF => noC) (fun F hF => BE' (AW' (AE'.nothing F) N5' (fun _ _ => by
  simp only [RT.pick]
  exact g1_bad s hs hx) fun _ => by
  simp only [RT.pick]
  exact AQ' rfl rfl (A0' t0 (A0' rfl (A0' rfl (A0' rfl (A0' t0 A3'))))) (A0' ⟨t0, t0, t0⟩ (A0' ⟨t0, t0, t0⟩ (A0' (CE' _ _) A3'))) (A0' rfl (A0' t0 A3')) (A0' ⟨t0, t0, t0⟩ A3'))) fun F => ?_
  refine cv (fT' s F) ⟨⟨?_, (AF' (vs' := [.tuple [.agg [sv nil0, sv nil0], bv false]]) (H' := []) [] rfl rfl (v0) trivial).fits rfl⟩⟩
  simp only [Cnd.holds, A2', Nat.blt_eq, true_and, and_true]
  and_intros
  all_goals first
   | exact A1' (nt_t (by omega))
   | exact A1' (nt_f (by omega))
   | exact A1' (qe_t (by omega))
   | exact A1' (qe_f (by omega))
   | exact A1' (decide_eq_true (by simp only [Z0, Z1, Z2]; omega))
   | exact A1' (decide_eq_false (by simp only [Z0, Z1, Z2]; omega))
   | (rw [A2']; exact o0) | (with_reducible first | exact t0 | exact r0 | exact A6' _ | assumption) | exact r0 | ((repeat (first | exact VW.nil | refine c1 ?_ | refine c2 ?_ | refine c3 ?_)); done)
 | some q =>
  obtain ⟨a, rest⟩ := q
  have ha := nmX_A hx
  rw [List.length_nil, Nat.zero_add, hsl] at ha
  cases hr : rest with
  | nil =>
   refine ⟨nil0, nil0, false, ?_, rfl⟩
   rw [hr] at hx
   refine AA' (con := []) (hints := hFd (s.size - ([] : List UInt8).length) true false true nil0 nil0) (lc := [(fFld, 4, A4' fFld 4, lG1 s a a.length (s.size - ([] : List UInt8).length))]) kFd rfl (fun F hF => noC) (fun F hF => BE' (AW' (AE'.nothing F) N5' (fun _ _ => by
  simp only [RT.pick]
  exact g1_ok s hs hx) fun _ => by
  simp only [RT.pick]
  exact AQ' rfl rfl (A0' t0 (A0' rfl (A0' rfl (A0' rfl (A0' t0 A3'))))) (A0' ⟨t0, t0, t0⟩ (A0' ⟨t0, t0, t0⟩ (A0' (CE' _ _) A3'))) (A0' t0 (A0' rfl (A0' rfl (A0' rfl (A0' t0 A3'))))) (A0' ⟨t0, t0, t0⟩ (A0' ⟨t0, t0, t0⟩ (A0' (CE' _ _) A3'))))) fun F => ?_
   refine cv (fW' s a a.length (s.size - ([] : List UInt8).length) F) ⟨⟨?_, (AF' (vs' := [.tuple [.agg [sv nil0, sv nil0], bv false]]) (H' := []) [] rfl rfl (v0) trivial).fits rfl⟩⟩
   simp only [Cnd.holds, A2', Nat.blt_eq, true_and, and_true]
   and_intros
   all_goals first
    | exact A1' (by simp)
    | exact A1' (nt_t (by omega))
    | exact A1' (nt_f (by omega))
    | exact A1' (qe_t (by omega))
    | exact A1' (qe_f (by omega))
    | exact A1' (decide_eq_true (by simp only [Z0, Z1, Z2]; omega))
    | exact A1' (decide_eq_false (by simp only [Z0, Z1, Z2]; omega))
    | (rw [A2']; exact o0) | (with_reducible first | exact t0 | exact r0 | exact A6' _ | assumption) | exact r0 | ((repeat (first | exact VW.nil | refine c1 ?_ | refine c2 ?_ | refine c3 ?_)); done)
  | cons c r =>
   rw [hr] at hx
   obtain ⟨rfl, hdr⟩ := RY' hx
   have hlen := QA' hx
   rw [List.length_cons, hsl] at hlen
   rw [hsl] at hdr
   obtain ⟨i, hie⟩ : ∃ i, s.size - ((58 : UInt8) :: r).length = i := ⟨_, rfl⟩
   have hi : i < s.size := by rw [List.length_cons] at hie; omega
   have hdr2 : s.data.toList.drop (i + 1) = r := by
    rw [List.length_cons] at hie
    rw [← List.drop_drop, ← hie, hdr]
    rfl
   have hwi := AO' i (by omega)
   have hl1 := g1_ok s hs hx
   rw [hie] at hl1
   simp only
   by_cases ha0 : a = []
   ·subst ha0
    rw [if_pos rfl]
    refine ⟨nil0, nil0, false, ?_, rfl⟩
    refine AA' (con := []) (hints := hFd i false true true nil0 nil0) (lc := [(fFld, 4, A4' fFld 4, lG1 s [] 0 i)]) kFd rfl (fun F hF => noC) (fun F hF => BE' (AW' (AE'.nothing F) N5' (fun _ _ => by
  simp only [RT.pick]
  exact hl1) fun _ => by
  simp only [RT.pick]
  exact AQ' rfl rfl (A0' t0 (A0' rfl (A0' rfl (A0' rfl (A0' t0 A3'))))) (A0' ⟨t0, t0, t0⟩ (A0' ⟨t0, t0, t0⟩ (A0' (CE' _ _) A3'))) (A0' t0 (A0' rfl (A0' rfl (A0' rfl (A0' t0 A3'))))) (A0' ⟨t0, t0, t0⟩ (A0' ⟨t0, t0, t0⟩ (A0' (CE' _ _) A3'))))) fun F => ?_
    refine cv (fV' s [] 0 i F) ⟨⟨?_, (AF' (vs' := [.tuple [.agg [sv nil0, sv nil0], bv false]]) (H' := []) [] rfl rfl (v0) trivial).fits rfl⟩⟩
    simp only [Cnd.holds, A2', Nat.blt_eq, true_and, and_true]
    and_intros
    all_goals first
     | exact AG' hwi
     | exact A1' (nt_t (by omega))
     | exact A1' (nt_f (by omega))
     | exact A1' (qe_t (by omega))
     | exact A1' (qe_f (by omega))
     | exact A1' (decide_eq_true (by simp only [Z0, Z1, Z2]; omega))
     | exact A1' (decide_eq_false (by simp only [Z0, Z1, Z2]; omega))
     | (rw [A2']; exact o0) | (with_reducible first | exact t0 | exact r0 | exact A6' _ | assumption) | exact r0 | ((repeat (first | exact VW.nil | refine c1 ?_ | refine c2 ?_ | refine c3 ?_)); done)
   rw [if_neg ha0]
   have ha1 : a.length ≠ 0 := fun e => ha0 (List.eq_nil_of_length_eq_zero e)
   rw [← hdr2]
   cases hq : (s.data.toList.drop (i + 1)).all qH with
   | false =>
    refine ⟨nil0, nil0, false, ?_, rfl⟩
    refine AA' (con := []) (hints := hFd i false false false nil0 nil0) (lc := [(fFld, 4, A4' fFld 4, lG1 s a a.length i), (fFld, 16, A4' fFld 16, lG2x s a a.length (i + 1) s.size)]) kFd rfl (fun F hF => noC) (fun F hF => D3' (AW' (AE'.nothing F) N5' (fun _ _ => by
  simp only [RT.pick]
  exact hl1) fun _ => by
  simp only [RT.pick]
  exact AQ' rfl rfl (A0' t0 (A0' rfl (A0' rfl (A0' rfl (A0' t0 A3'))))) (A0' ⟨t0, t0, t0⟩ (A0' ⟨t0, t0, t0⟩ (A0' (CE' _ _) A3'))) (A0' t0 (A0' rfl (A0' rfl (A0' rfl (A0' t0 A3'))))) (A0' ⟨t0, t0, t0⟩ (A0' ⟨t0, t0, t0⟩ (A0' (CE' _ _) A3')))) (BE' (AW' (AE'.nothing F) N5' (fun _ _ => by
  simp only [RT.pick]
  exact g2_bad s hs a a.length (i + 1) hi hq) fun _ => by
  simp only [RT.pick]
  exact AQ' rfl rfl (A0' t0 (A0' rfl (A0' rfl (A0' rfl (A0' t0 (A0' t0 (A0' t0 A3'))))))) (A0' ⟨t0, t0, t0⟩ (A0' ⟨t0, t0, t0⟩ (A0' (CE' _ _) A3'))) (A0' rfl (A0' t0 A3')) (A0' ⟨t0, t0, t0⟩ A3')))) fun F => ?_
    refine cv (fU' s a a.length i F) ⟨⟨?_, (AF' (vs' := [.tuple [.agg [sv nil0, sv nil0], bv false]]) (H' := []) [] rfl rfl (v0) trivial).fits rfl⟩⟩
    simp only [Cnd.holds, A2', Nat.blt_eq, true_and, and_true]
    and_intros
    all_goals first
     | exact AG' hwi
     | exact A1' (nt_t (by omega))
     | exact A1' (nt_f (by omega))
     | exact A1' (qe_t (by omega))
     | exact A1' (qe_f (by omega))
     | exact A1' (decide_eq_true (by simp only [Z0, Z1, Z2]; omega))
     | exact A1' (decide_eq_false (by simp only [Z0, Z1, Z2]; omega))
     | (rw [A2']; exact o0) | (with_reducible first | exact t0 | exact r0 | exact A6' _ | assumption) | exact r0 | ((repeat (first | exact VW.nil | refine c1 ?_ | refine c2 ?_ | refine c3 ?_)); done)
   | true =>
    obtain ⟨g, hg, htl⟩ : ∃ g, g ≤ s.size ∧ PY' (s.data.toList.drop (i + 1)) = s.data.toList.drop g := by
     obtain ⟨m, hm⟩ := E4' wsQ (s.data.toList.drop (i + 1))
     by_cases hle : i + 1 + m ≤ s.size
     ·exact ⟨i + 1 + m, hle, by show (s.data.toList.drop (i + 1)).dropWhile wsQ = _; rw [hm, List.drop_drop]⟩
     ·refine ⟨s.size, n0, ?_⟩
      rw [DQ' (n0)]
      show (s.data.toList.drop (i + 1)).dropWhile wsQ = _
      rw [hm, List.drop_drop]; exact DQ' (by omega)
    obtain ⟨R, hR⟩ : ∃ R, EB' (s.data.toList.drop g) = R := ⟨_, rfl⟩
    have hRt : (s.data.toList.drop g).take R.length = R ∧ R.length ≤ (s.data.toList.drop g).length := by rw [← hR]; exact SV' _
    have hRl : g + R.length ≤ s.size := by have := hRt.2; rw [H6'] at this; omega
    have hl3 := g3_ok s hs a a.length (i + 1) hi hg htl
    have hl4 := g4_ok s hs a a.length g hg hR
    refine ⟨tB a, tB R, true, ?_, by rw [htl, hR]; simp only [if_true, BL']⟩
    have ht1 : 0 + a.length ≤ (rowV encB a).length := by rw [BR']; omega
    have ht2 : List.take a.length (List.drop 0 (rowV encB a)) = vmap (List.map (fun b => Value.int IntKind.u8 ↑b.toNat) (tB a).data.toList) := by rw [Q2', L6']
    have hx1 : Wk (AV.v (.string (s.extract g (g + R.length)))) (sv (tB R)) := by
     rw [TU' s g (g + R.length) hRl, Nat.add_sub_cancel_left, hRt.1]; exact w0
    refine AA' (con := []) (hints := hFd i false false false (tB a) (tB R)) (lc := [(fFld, 4, A4' fFld 4, lG1 s a a.length i), (fFld, 16, A4' fFld 16, lG2 s a a.length (i + 1) s.size), (fFld, 20, A4' fFld 20, lG3 s a a.length (i + 1) s.size g), (fFld, 22, A4' fFld 22, lG4 s a a.length g s.size (g + R.length))]) kFd rfl (fun F hF => noC) (fun F hF => D3' (AW' (AE'.nothing F) N5' (fun _ _ => by
  simp only [RT.pick]
  exact hl1) fun _ => by
  simp only [RT.pick]
  exact AQ' rfl rfl (A0' t0 (A0' rfl (A0' rfl (A0' rfl (A0' t0 A3'))))) (A0' ⟨t0, t0, t0⟩ (A0' ⟨t0, t0, t0⟩ (A0' (CE' _ _) A3'))) (A0' t0 (A0' rfl (A0' rfl (A0' rfl (A0' t0 A3'))))) (A0' ⟨t0, t0, t0⟩ (A0' ⟨t0, t0, t0⟩ (A0' (CE' _ _) A3')))) (D3' (AW' (AE'.nothing F) N5' (fun _ _ => by
  simp only [RT.pick]
  exact g2_ok s hs a a.length (i + 1) hi hq) fun _ => by
  simp only [RT.pick]
  exact AQ' rfl rfl (A0' t0 (A0' rfl (A0' rfl (A0' rfl (A0' t0 (A0' t0 (A0' t0 A3'))))))) (A0' ⟨t0, t0, t0⟩ (A0' ⟨t0, t0, t0⟩ (A0' (CE' _ _) A3'))) (A0' t0 (A0' rfl (A0' rfl (A0' rfl (A0' t0 (A0' t0 A3')))))) (A0' ⟨t0, t0, t0⟩ (A0' ⟨t0, t0, t0⟩ (A0' (CE' _ _) A3')))) (D3' (AW' (AE'.nothing F) N5' (fun _ _ => by
  simp only [RT.pick]
  exact hl3) fun _ => by
  simp only [RT.pick]
  exact AQ' rfl rfl (A0' t0 (A0' rfl (A0' rfl (A0' rfl (A0' t0 (A0' t0 A3')))))) (A0' ⟨t0, t0, t0⟩ (A0' ⟨t0, t0, t0⟩ (A0' (CE' _ _) A3'))) (A0' t0 (A0' rfl (A0' rfl (A0' rfl (A0' t0 (A0' t0 A3')))))) (A0' ⟨t0, t0, t0⟩ (A0' ⟨t0, t0, t0⟩ (A0' (CE' _ _) A3')))) (BE' (AW' (AE'.nothing F) N5' (fun _ _ => by
  simp only [RT.pick]
  exact hl4) fun _ => by
  simp only [RT.pick]
  exact AQ' rfl rfl (A0' t0 (A0' rfl (A0' rfl (A0' rfl (A0' t0 (A0' t0 A3')))))) (A0' ⟨t0, t0, t0⟩ (A0' ⟨t0, t0, t0⟩ (A0' (CE' _ _) A3'))) (A0' t0 (A0' rfl (A0' rfl (A0' rfl (A0' t0 (A0' t0 A3')))))) (A0' ⟨t0, t0, t0⟩ (A0' ⟨t0, t0, t0⟩ (A0' (CE' _ _) A3')))))))) fun F => ?_
    refine cv (fS' s (tB a) (tB R) a a.length i g (g + R.length) F) ⟨⟨?_, (AF' (vs' := [.tuple [.agg [sv (tB a), sv (tB R)], bv true]]) (H' := []) [] rfl rfl (v0) trivial).fits rfl⟩⟩
    simp only [Cnd.holds, A2', Nat.blt_eq, true_and, and_true]
    and_intros
    all_goals first
     | exact AG' hwi
     | exact ht1
     | exact ht2
     | exact hx1
     | exact Nat.le_add_right _ _
     | exact hRl
     | exact A1' (nt_t (by omega))
     | exact A1' (nt_f (by omega))
     | exact A1' (qe_t (by omega))
     | exact A1' (qe_f (by omega))
     | exact A1' (decide_eq_true (by simp only [Z0, Z1, Z2]; omega))
     | exact A1' (decide_eq_false (by simp only [Z0, Z1, Z2]; omega))
     | (rw [A2']; exact o0) | (with_reducible first | exact t0 | exact r0 | exact A6' _ | assumption) | exact r0 | ((repeat (first | exact VW.nil | refine c1 ?_ | refine c2 ?_ | refine c3 ?_)); done)
end Go.Proofs.YtpijbbobejeemaaGreatDoor.Htp
