/- Parts of the proof, merged. -/
import Derived.Test.YtpijbbobejeemaaGreatDoorPrs7
set_option linter.unusedVariables false
set_option linter.unusedSimpArgs false
set_option maxRecDepth 100000
set_option linter.unusedSectionVars false
namespace Go.Proofs.YtpijbbobejeemaaGreatDoor.Htp
open Go Go.RowKit Eng Kit
noncomputable section
abbrev fCpy : Nat := 38
abbrev fRNx : Nat := 12
def aCp (off n k i : Nat) : List (Nat × AV) := [(0, sO 0 off n), (3, sB 1000 k), (4, iv (Int.ofNat i))]
def kCp : List Nat := [0, 1000, 1100, 1101]
def iCp : List Nat := [0, 3, 4]
theorem gG' (P O : List UInt8) (x : UInt8) (off n k i : Nat) (F : HP) : AV' [] (AB' [(fCpy, 3, 3, hv (.lit true)), (fCpy, 5, 4, hv (byv x)), (fCpy, 4, 1, hv (iv (Int.ofNat (i + 1))))]) [] default fCpy (A4' fCpy 3) (tms 0 20 (aCp off n k i)) [(0, rB1 P), (1000, rB O)] kCp iCp F = VT.leaf (AX.normal,[AV.slice 0 off n 1 (Cp.lo n),AV.slice 1101 0 (k + 1) 1 (Cp.lo (k + 1)),i' (i + 1)],20) [some (AO.cells (rowV encB P) 11),none,some (AO.cells [AV.v (Value.int IntKind.u8 ↑x.toNat)] 10),some (AO.cells (List.take (k * 1) (List.drop 0 (rowV encB O)) ++ [AV.v (Value.int IntKind.u8 ↑x.toNat)]) 10)] 1102 ((k99' i n).a ((k2' i n).a (((p' ((off + i * 1).blt (rowV encB P).length = true)).a ((p' ((rowV encB P).getD (off + i * 1) (u') = AV.v (Value.int IntKind.u8 ((rowV encB P).getD (off + i * 1) (u')).intOf))).a (f' (Wk (AV.v (Value.int IntKind.u8 ((rowV encB P).getD (off + i * 1) (u')).intOf)) (AV.v (Value.int IntKind.u8 ↑x.toNat)))))).a ((k134' k O).a ((k6' i).a t'))))) := by kernel_rfl
noncomputable section
abbrev k154' (q0 q1 : Nat) : Cnd := (f' (Wk (b' (decide (Int.ofNat q0 < ↑q1))) g'))
end
theorem gH' (P O : List UInt8) (off n k i : Nat) (F : HP) : AV' [] (AB' [(fCpy, 3, 3, hv (.lit false))]) [] default fCpy (A4' fCpy 3) (tms 0 20 (aCp off n k i)) [(0, rB1 P), (1000, rB O)] kCp iCp F = VT.leaf (AX.exit 0,[AV.slice 0 off n 1 (Cp.lo n),AV.slice 1000 0 k 1 (Cp.lo k),i' i],20) [some (AO.cells (rowV encB P) 11),some (AO.cells (rowV encB O) 10),none,none] 1100 ((k154' i n).a t') := by kernel_rfl
def gCp : List AV → AP (Nat × Nat) := fun tmps => match getL tmps 0, getL tmps 3 with
 | .slice a _ _ _ _, .slice b _ _ _ _ => .ret (a, b)
 | _, _ => .fail "copy"
def lCp (P O : List UInt8) (off n : Nat) : List AV → AP (AX × List AV) := mkL gCp (fun _ => True) nm0k (fun _ => tms 0 20 (aCp off n 0 0)) (fun _ => [(0, rB1 P), (1000, rB [])]) (fun _ => .leaf (.exit 0) (tms 0 20 [(3, sB 1000 n)]) [(0, rB1 P), (1000, rB O)])
theorem oCp_eq (P O : List UInt8) (off n : Nat) (F : HP) : wRun [] BS' [(fCpy, 3, A4' fCpy 3, lCp P O off n)] default fCpy [sO 0 off n] [(0, rB1 P)] [0, 1100, 1101] F = VT.leaf (AV.slice 1101 0 n 1 (Cp.lo n)) [some (AO.cells (AV.rens (sgN (nm0k (0,1100)) [1000] 1101) (rowV encB P)) 11),none,some (AO.cells (AV.rens (sgN (nm0k (0,1100)) [1000] 1101) (rowV encB O)) 10)] 1102 ((p' ((fCpy,3,A4' fCpy 3,lCp P O off n).snd.snd.fst = (fCpy,3,A4' fCpy 3,lCp P O off n).snd.snd.fst)).a (k15'.a ((p' (VW (AV.slice 0 off n 1 (Cp.lo n)::u'::e'::AV.slice 1100 0 0 1 (Cp.ex 0)::i' 0::AV.slice 1100 0 0 1 (Cp.ex 0)::ru8 (ru4 (u'::u'::[]))) (AV.slice 0 off n 1 (Cp.lo n)::a'::a'::AV.slice 1100 0 0 1 (Cp.lo 0)::i' 0::ra8 (ra4 (a'::a'::a'::[]))))).a ((p' (OW (AO.cells (rowV encB P) 11) (AO.cells (AV.rens (nm0k (0,1100)) (rowV encB P)) 11))).a (k147'.a t'))))) := by kernel_rfl
def cRHd (P : List UInt8) (off n z : Nat) : List AV → Option (AP AV) := mkC gRow (fun _ => True) nm0 (fun _ => [sO 0 off n]) (fun _ => [(0, rB1 P)]) (fun _ => .leaf .ret [iv (Int.ofNat z)] [(0, rB1 P)])
def cRLs (P : List UInt8) (M : List ByteArray) (off n k : Nat) : List AV → Option (AP AV) := mkC gRow (fun _ => True) nm0 (fun _ => [sO 0 off n]) (fun _ => [(0, rB1 P)]) (fun _ => .leaf .ret [sB 1000 k] [(0, rB1 P), (1000, rS M)])
def cFi (s m t : ByteArray) (b : Bool) : List AV → Option (AP AV) := mkC (fun _ => .ret ()) (fun _ => True) (fun _ k => k) (fun _ => [sv s]) (fun _ => []) (fun _ => .leaf .ret [.tuple [rqV m t nilP nilB, bv b]] [])
def cFd (s k v : ByteArray) (b : Bool) : List AV → Option (AP AV) := mkC (fun _ => .ret ()) (fun _ => True) (fun _ k => k) (fun _ => [sv s]) (fun _ => []) (fun _ => .leaf .ret [.tuple [.agg [sv k, sv v], bv b]] [])
def cFnd (L : Hds) (name : ByteArray) (z : Int) : List AV → Option (AP AV) := mkC gRow (fun _ => True) nm0 (fun _ => [sP 0 L.length, sv name]) (fun _ => [(0, rP L)]) (fun _ => .leaf .ret [iv z] [(0, rP L)])
def NA' (name : ByteArray) : List AV → Option (AP AV) := mkC (fun _ => .ret ()) (fun _ => True) (fun _ k => k) (fun _ => [nilP, sv name]) (fun _ => []) (fun _ => .leaf .ret [iv (-1)] [])
def cCp (P B : List UInt8) (off n : Nat) : List AV → Option (AP AV) := mkC gRow (fun _ => True) nm0 (fun _ => [sO 0 off n]) (fun _ => [(0, rB1 P)]) (fun _ => .leaf .ret [sB 1000 n] [(0, rB1 P), (1000, rB B)])
def aQ (off len n k i : Nat) : List (Nat × AV) := [(0, sO 4 off len), (2, .ptr 0 0), (6, .ptr 1 0), (7, iv (Int.ofNat n)), (8, sB 3 k), (9, .ptr 2 0), (11, iv (Int.ofNat i))]
def kQ : List Nat := [0, 1, 2, 3, 4, 1000, 1100, 1101, 1102, 1103]
def iQ : List Nat := [0, 2, 3, 4, 5, 6, 7, 8, 9, 11]
def oQz (P : List UInt8) (M : List ByteArray) (m t : ByteArray) : LH := [(0, rq00), (1, rq00), (2, rqO m t nilP nilB), (3, rS M), (4, rB1 P)]
def oQr (P : List UInt8) (M : List ByteArray) (m t : ByteArray) (L : Hds) : LH := [(0, rq00), (1, rq00), (2, rqO m t (sP 1000 L.length) nilB), (3, rS M), (4, rB1 P), (1000, rP L)]
def hQ (s : ByteArray) (i : Nat) (b1 b2 b3 r : Bool) : B4' := AB' [(fRNx, 14, 3, hv (.lit true)), (fRNx, 16, 3, hv (sv s)), (fRNx, 17, 1, hv (.lit b1)), (fRNx, 17, 8, hv (.lit b2)), (fRNx, 17, 13, hv (.lit b3)), (fRNx, 17, 14, hv (.lit r)), (fRNx, 15, 1, hv (iv (Int.ofNat (i + 1))))]
noncomputable section
abbrev k155' (q0 : Nat) (q1 : List ByteArray) (q2 : ByteArray) : Cnd := ((p' ((0 + q0 * 1).blt (rowV encS q1).length = true)).a ((p' ((rowV encS q1).getD (0 + q0 * 1) (u') = AV.v (Value.string ((rowV encS q1).getD (0 + q0 * 1) (u')).strOf))).a (f' (Wk (AV.v (Value.string ((rowV encS q1).getD (0 + q0 * 1) (u')).strOf)) (s' q2)))))
abbrev k156' (q0 : ByteArray) : Cnd := ((p' True).a (f' (VW [s' q0] [s' q0])))
abbrev k157' : Cnd := ((p' (true = true)).a (f' ([s' nil0,s' nil0,e',e'] = [s' nil0,s' nil0,e',e'])))
end
theorem g4' (P : List UInt8) (M : List ByteArray) (m t s k v : ByteArray) (off len n q i : Nat) (F : HP) : AV' [(fFld, cFd s k v false), (fFnd, NA' k)] (hQ s i true false false true) [] default fRNx (A4' fRNx 14) (tms 0 156 (aQ off len n q i)) (oQz P M m t) kQ iQ F = VT.leaf (AX.ret,[AV.slice 4 off len 1 (Cp.lo len),AV.ptr 0 0,b' false,i' 400,i' 0,AV.ptr 1 0,i' n,AV.slice 3 0 q 1 (Cp.lo q),AV.ptr 2 0,i' i],156) [some (AO.cells [s' nil0,s' nil0,e',e'] 64),some (AO.cells [s' nil0,s' nil0,e',e'] 64),some (AO.cells [s' m,s' t,e',e'] 64),some (AO.cells (rowV encS M) 18),some (AO.cells (rowV encB P) 11),none,some (AO.cells [s' k,s' v] 78),none,none,none] 1101 ((k99' i q).a ((k2' i q).a ((k155' i M s).a ((k156' s).a (k12'.a (k36'.a (k20'.a (k157'.a (k12'.a t'))))))))) := by kernel_rfl
noncomputable section
abbrev k158' (q0 : ByteArray) : Cnd := ((p' True).a (f' (VW [e',s' q0] [e',s' q0])))
end
theorem g5' (P : List UInt8) (M : List ByteArray) (m t s k v : ByteArray) (off len n q i : Nat) (F : HP) : AV' [(fFld, cFd s k v true), (fFnd, NA' k)] (hQ s i false false true true) [] default fRNx (A4' fRNx 14) (tms 0 156 (aQ off len n q i)) (oQz P M m t) kQ iQ F = VT.leaf (AX.ret,[AV.slice 4 off len 1 (Cp.lo len),AV.ptr 0 0,b' false,i' 400,i' 0,AV.ptr 1 0,i' n,AV.slice 3 0 q 1 (Cp.lo q),AV.ptr 2 0,i' i],156) [some (AO.cells [s' nil0,s' nil0,e',e'] 64),some (AO.cells [s' nil0,s' nil0,e',e'] 64),some (AO.cells [s' m,s' t,e',e'] 64),some (AO.cells (rowV encS M) 18),some (AO.cells (rowV encB P) 11),none,some (AO.cells [s' k,s' v] 78),none,none,none] 1101 ((k99' i q).a ((k2' i q).a ((k155' i M s).a ((k156' s).a (k12'.a (k18'.a (k12'.a ((k13' k).a ((k158' k).a (k18'.a ((k13' k).a ((k46' k).a (k20'.a (k157'.a (k12'.a t'))))))))))))))) := by kernel_rfl
noncomputable section
abbrev k159' (q0 q1 : ByteArray) : Cnd := ((p' (true = true)).a (f' ([s' q0,s' q1] = [s' q0,s' q1])))
end
theorem g3' (P : List UInt8) (M : List ByteArray) (m t s k v : ByteArray) (off len n q i : Nat) (F : HP) : AV' [(fFld, cFd s k v true), (fFnd, NA' k)] (hQ s i false false false false) [] default fRNx (A4' fRNx 14) (tms 0 156 (aQ off len n q i)) (oQz P M m t) kQ iQ F = VT.leaf (AX.normal,[AV.slice 4 off len 1 (Cp.lo len),AV.ptr 0 0,a',a',a',AV.ptr 1 0,i' n,AV.slice 3 0 q 1 (Cp.lo q),AV.ptr 2 0,i' (i + 1)],156) [some (AO.cells [s' nil0,s' nil0,e',e'] 64),some (AO.cells [s' nil0,s' nil0,e',e'] 64),some (AO.cells [s' m,s' t,AV.slice 1102 0 1 2 (Cp.lo 1),e'] 64),some (AO.cells (rowV encS M) 18),some (AO.cells (rowV encB P) 11),none,some (AO.cells [s' k,s' v] 78),some (AO.cells [s' k,s' v] 78),some (AO.cells [s' k,s' v] 78),none] 1103 ((k99' i q).a ((k2' i q).a ((k155' i M s).a ((k156' s).a (k12'.a (k18'.a (k12'.a ((k13' k).a ((k158' k).a (k18'.a ((k13' k).a ((k48' k).a (k34'.a (k12'.a ((k159' k v).a (k50'.a (k12'.a ((k6' i).a t')))))))))))))))))) := by kernel_rfl
theorem g8' (P : List UInt8) (M : List ByteArray) (L : Hds) (m t s k v : ByteArray) (z : Int) (off len n q i : Nat) (F : HP) : AV' [(fFld, cFd s k v false), (fFnd, cFnd L k z)] (hQ s i true false false true) [] default fRNx (A4' fRNx 14) (tms 0 156 (aQ off len n q i)) (oQr P M m t L) kQ iQ F = VT.leaf (AX.ret,[AV.slice 4 off len 1 (Cp.lo len),AV.ptr 0 0,b' false,i' 400,i' 0,AV.ptr 1 0,i' n,AV.slice 3 0 q 1 (Cp.lo q),AV.ptr 2 0,i' i],156) [some (AO.cells [s' nil0,s' nil0,e',e'] 64),some (AO.cells [s' nil0,s' nil0,e',e'] 64),some (AO.cells [s' m,s' t,AV.slice 1000 0 (List.length L) 2 (Cp.lo (List.length L)),e'] 64),some (AO.cells (rowV encS M) 18),some (AO.cells (rowV encB P) 11),some (AO.cells (rowV encP L) 78),some (AO.cells [s' k,s' v] 78),none,none,none] 1101 ((k99' i q).a ((k2' i q).a ((k155' i M s).a ((k156' s).a (k12'.a (k36'.a (k20'.a (k157'.a (k12'.a t'))))))))) := by kernel_rfl
noncomputable section
abbrev k160' (q0 : Nat) (q1 : Hds) (q2 : ByteArray) : Cnd := ((p' True).a ((p' (VW [AV.slice q0 0 (List.length q1) 2 (Cp.lo (List.length q1)),s' q2] [AV.slice q0 0 (List.length q1) 2 (Cp.lo (List.length q1)),s' q2])).a (f' (OW (AO.cells (rowV encP q1) 78) (AO.cells (AV.rens (nm0 q0) (rowV encP q1)) 78)))))
end
theorem gA' (P : List UInt8) (M : List ByteArray) (L : Hds) (m t s k v : ByteArray) (z : Int) (off len n q i : Nat) (F : HP) : AV' [(fFld, cFd s k v true), (fFnd, cFnd L k z)] (hQ s i false true false true) [] default fRNx (A4' fRNx 14) (tms 0 156 (aQ off len n q i)) (oQr P M m t L) kQ iQ F = VT.leaf (AX.ret,[AV.slice 4 off len 1 (Cp.lo len),AV.ptr 0 0,b' false,i' 400,i' 0,AV.ptr 1 0,i' n,AV.slice 3 0 q 1 (Cp.lo q),AV.ptr 2 0,i' i],156) [some (AO.cells [s' nil0,s' nil0,e',e'] 64),some (AO.cells [s' nil0,s' nil0,e',e'] 64),some (AO.cells [s' m,s' t,AV.slice 1000 0 (List.length L) 2 (Cp.lo (List.length L)),e'] 64),some (AO.cells (rowV encS M) 18),some (AO.cells (rowV encB P) 11),some (AO.cells (AV.rens (sgN (nm0 1000) [] 0) (rowV encP L)) 78),some (AO.cells [s' k,s' v] 78),none,none,none] 1101 ((k99' i q).a ((k2' i q).a ((k155' i M s).a ((k156' s).a (k12'.a (k18'.a (k12'.a ((k13' k).a ((k160' 1000 L k).a ((f' (Wk (b' (decide (z ≥ Int.ofNat 0))) j')).a (k20'.a (k157'.a (k12'.a t'))))))))))))) := by kernel_rfl
noncomputable section
abbrev k161' (q0 : Int) : Cnd := (f' (Wk (b' (decide (q0 ≥ Int.ofNat 0))) g'))
end
theorem g9' (P : List UInt8) (M : List ByteArray) (L : Hds) (m t s k v : ByteArray) (z : Int) (off len n q i : Nat) (F : HP) : AV' [(fFld, cFd s k v true), (fFnd, cFnd L k z)] (hQ s i false false true true) [] default fRNx (A4' fRNx 14) (tms 0 156 (aQ off len n q i)) (oQr P M m t L) kQ iQ F = VT.leaf (AX.ret,[AV.slice 4 off len 1 (Cp.lo len),AV.ptr 0 0,b' false,i' 400,i' 0,AV.ptr 1 0,i' n,AV.slice 3 0 q 1 (Cp.lo q),AV.ptr 2 0,i' i],156) [some (AO.cells [s' nil0,s' nil0,e',e'] 64),some (AO.cells [s' nil0,s' nil0,e',e'] 64),some (AO.cells [s' m,s' t,AV.slice 1000 0 (List.length L) 2 (Cp.lo (List.length L)),e'] 64),some (AO.cells (rowV encS M) 18),some (AO.cells (rowV encB P) 11),some (AO.cells (AV.rens (sgN (nm0 1000) [] 0) (rowV encP L)) 78),some (AO.cells [s' k,s' v] 78),none,none,none] 1101 ((k99' i q).a ((k2' i q).a ((k155' i M s).a ((k156' s).a (k12'.a (k18'.a (k12'.a ((k13' k).a ((k160' 1000 L k).a ((k161' z).a ((k13' k).a ((k46' k).a (k20'.a (k157'.a (k12'.a t'))))))))))))))) := by kernel_rfl
theorem g7' (P : List UInt8) (M : List ByteArray) (L : Hds) (m t s k v : ByteArray) (z : Int) (off len n q i : Nat) (F : HP) : AV' [(fFld, cFd s k v true), (fFnd, cFnd L k z)] (hQ s i false false false false) [] default fRNx (A4' fRNx 14) (tms 0 156 (aQ off len n q i)) (oQr P M m t L) kQ iQ F = VT.leaf (AX.normal,[AV.slice 4 off len 1 (Cp.lo len),AV.ptr 0 0,a',a',a',AV.ptr 1 0,i' n,AV.slice 3 0 q 1 (Cp.lo q),AV.ptr 2 0,i' (i + 1)],156) [some (AO.cells [s' nil0,s' nil0,e',e'] 64),some (AO.cells [s' nil0,s' nil0,e',e'] 64),some (AO.cells [s' m,s' t,AV.slice 1102 0 (List.length L + 1) 2 (Cp.lo (List.length L + 1)),e'] 64),some (AO.cells (rowV encS M) 18),some (AO.cells (rowV encB P) 11),none,some (AO.cells [s' k,s' v] 78),some (AO.cells [s' k,s' v] 78),some (AO.cells (List.take (List.length L * 2) (List.drop 0 (AV.rens (sgN (nm0 1000) [] 0) (rowV encP L))) ++ [s' k,s' v]) 78),none] 1103 ((k99' i q).a ((k2' i q).a ((k155' i M s).a ((k156' s).a (k12'.a (k18'.a (k12'.a ((k13' k).a ((k160' 1000 L k).a ((k161' z).a ((k13' k).a ((k48' k).a (k34'.a (k12'.a ((k159' k v).a ((k51' L 1000).a (k12'.a ((k6' i).a t')))))))))))))))))) := by kernel_rfl
theorem g6' (P : List UInt8) (M : List ByteArray) (m t : ByteArray) (off len n q i : Nat) (F : HP) : AV' [] (AB' [(fRNx, 14, 3, hv (.lit false))]) [] default fRNx (A4' fRNx 14) (tms 0 156 (aQ off len n q i)) (oQz P M m t) kQ iQ F = VT.leaf (AX.exit 0,[AV.slice 4 off len 1 (Cp.lo len),AV.ptr 0 0,a',a',a',AV.ptr 1 0,i' n,AV.slice 3 0 q 1 (Cp.lo q),AV.ptr 2 0,i' i],156) [some (AO.cells [s' nil0,s' nil0,e',e'] 64),some (AO.cells [s' nil0,s' nil0,e',e'] 64),some (AO.cells [s' m,s' t,e',e'] 64),some (AO.cells (rowV encS M) 18),some (AO.cells (rowV encB P) 11),none,none,none,none,none] 1100 ((k154' i q).a t') := by kernel_rfl
theorem gB' (P : List UInt8) (M : List ByteArray) (L : Hds) (m t : ByteArray) (off len n q i : Nat) (F : HP) : AV' [] (AB' [(fRNx, 14, 3, hv (.lit false))]) [] default fRNx (A4' fRNx 14) (tms 0 156 (aQ off len n q i)) (oQr P M m t L) kQ iQ F = VT.leaf (AX.exit 0,[AV.slice 4 off len 1 (Cp.lo len),AV.ptr 0 0,a',a',a',AV.ptr 1 0,i' n,AV.slice 3 0 q 1 (Cp.lo q),AV.ptr 2 0,i' i],156) [some (AO.cells [s' nil0,s' nil0,e',e'] 64),some (AO.cells [s' nil0,s' nil0,e',e'] 64),some (AO.cells [s' m,s' t,AV.slice 1000 0 (List.length L) 2 (Cp.lo (List.length L)),e'] 64),some (AO.cells (rowV encS M) 18),some (AO.cells (rowV encB P) 11),some (AO.cells (rowV encP L) 78),none,none,none,none] 1100 ((k154' i q).a t') := by kernel_rfl
def gQ : List AV → AP ((Nat × Nat × Nat) × Nat × Nat) := fun tmps => match getL tmps 0, getL tmps 2, getL tmps 6, getL tmps 8, getL tmps 9 with
 | .slice e _ _ _ _, .ptr a _, .ptr b _, .slice d _ _ _ _, .ptr c _ => .ret ((a, b, c), d, e)
 | _, _, _, _, _ => .fail "next"
def nmQ5 (p : (Nat × Nat × Nat) × Nat × Nat) : Nat → Nat := fun k => match k with
 | 0 => p.1.1
 | 1 => p.1.2.1
 | 2 => p.1.2.2
 | 3 => p.2.1
 | 4 => p.2.2
 | k => k
def zQ (off len n : Nat) : List (Nat × AV) := [(0, sO 4 off len), (2, .ptr 0 0), (6, .ptr 1 0), (7, iv (Int.ofNat n)), (9, .ptr 2 0)]
def oQ2z (P : List UInt8) (m t : ByteArray) : LH := [(0, rq00), (1, rq00), (2, rqO m t nilP nilB), (4, rB1 P)]
def oQ2r (P : List UInt8) (m t : ByteArray) (L : Hds) : LH := [(0, rq00), (1, rq00), (2, rqO m t (sP 1000 L.length) nilB), (4, rB1 P), (1000, rP L)]
def xQ : List (Nat × AV) := [(2, .ptr 0 0), (3, bv false), (4, iv (Int.ofNat 400)), (5, iv (Int.ofNat 0))]
def lQz (P : List UInt8) (M : List ByteArray) (m t : ByteArray) (off len n q : Nat) : List AV → AP (AX × List AV) := mkL gQ (fun _ => True) nmQ5 (fun _ => tms 0 156 (aQ off len n q 1)) (fun _ => oQz P M m t) (fun _ => .leaf (.exit 0) (tms 0 156 (zQ off len n)) (oQ2z P m t))
def lQr (P : List UInt8) (M : List ByteArray) (m t : ByteArray) (L : Hds) (off len n q : Nat) : List AV → AP (AX × List AV) := mkL gQ (fun _ => True) nmQ5 (fun _ => tms 0 156 (aQ off len n q 1)) (fun _ => oQz P M m t) (fun _ => .leaf (.exit 0) (tms 0 156 (zQ off len n)) (oQ2r P m t L))
def lQx (P : List UInt8) (M : List ByteArray) (m t : ByteArray) (off len n q : Nat) : List AV → AP (AX × List AV) := mkL gQ (fun _ => True) nmQ5 (fun _ => tms 0 156 (aQ off len n q 1)) (fun _ => oQz P M m t) (fun _ => .leaf .ret (tms 0 156 xQ) [(0, rq00), (4, rB1 P)])
def aN (off len n : Nat) (v : ByteArray) (z i : Nat) : List (Nat × AV) := [(0, sO 4 off len), (2, .ptr 0 0), (6, .ptr 1 0), (7, iv (Int.ofNat n)), (9, .ptr 2 0), (14, iv (Int.ofNat z)), (16, sv v), (17, iv (Int.ofNat i))]
def iN : List Nat := [0, 2, 3, 4, 5, 6, 7, 9, 14, 16, 17]
def hN (x y : UInt8) (z z2 i : Nat) (b : Bool) : B4' := AB' [(fRNx, 25, 3, hv (.lit true)), (fRNx, 25, 6, hv (.lit true)), (fRNx, 27, 2, h0v (byv x)), (fRNx, 27, 4, hv (.lit b)), (fRNx, 29, 1, hv (iv (Int.ofNat (z * 10)))), (fRNx, 29, 4, h0v (byv x)), (fRNx, 29, 5, hv (byv y)), (fRNx, 29, 6, hv (iv (Int.ofNat y.toNat))), (fRNx, 29, 7, hv (iv (Int.ofNat z2))), (fRNx, 26, 1, hv (iv (Int.ofNat (i + 1))))]
noncomputable section
abbrev k162' (q0 : Nat) : Cnd := (f' (Wk (b' (decide (Int.ofNat q0 < Int.ofNat 10))) j'))
end
theorem aU' (P : List UInt8) (L : Hds) (m t v : ByteArray) (x y : UInt8) (off len n z z2 i : Nat) (F : HP) : AV' [(fDgt, cW x true)] (hN x y z z2 i false) [] default fRNx (A4' fRNx 25) (tms 0 156 (aN off len n v z i)) (oQ2r P m t L) kQ iN F = VT.leaf (AX.normal,[AV.slice 4 off len 1 (Cp.lo len),AV.ptr 0 0,a',a',a',AV.ptr 1 0,i' n,AV.ptr 2 0,i' z2,s' v,i' (i + 1)],156) [some (AO.cells [s' nil0,s' nil0,e',e'] 64),some (AO.cells [s' nil0,s' nil0,e',e'] 64),some (AO.cells [s' m,s' t,AV.slice 1000 0 (List.length L) 2 (Cp.lo (List.length L)),e'] 64),none,some (AO.cells (rowV encB P) 11),some (AO.cells (rowV encP L) 78),none,none,none,none] 1100 ((k106' i v).a ((k162' i).a ((k115' i v x).a ((k120' x).a (k18'.a ((f' (Wk (z' (IntKind.i64.wrap (Int.ofNat z * Int.ofNat 10))) (i' (z * 10)))).a ((k115' i v x).a ((f' (Wk (AV.v (Value.int IntKind.u8 (IntKind.u8.wrap (↑x.toNat - Int.ofNat 48)))) (AV.v (Value.int IntKind.u8 ↑y.toNat)))).a ((f' (Wk (z' (IntKind.i64.wrap ↑y.toNat)) (i' y.toNat))).a ((f' (Wk (z' (IntKind.i64.wrap (Int.ofNat (z * 10) + Int.ofNat y.toNat))) (i' z2))).a ((k6' i).a t'))))))))))) := by kernel_rfl
theorem oNX_eq (P : List UInt8) (L : Hds) (m t v : ByteArray) (x y : UInt8) (off len n z z2 i : Nat) (F : HP) : AV' [(fDgt, cW x false)] (hN x y z z2 i true) [] default fRNx (A4' fRNx 25) (tms 0 156 (aN off len n v z i)) (oQ2r P m t L) kQ iN F = VT.leaf (AX.ret,[AV.slice 4 off len 1 (Cp.lo len),AV.ptr 0 0,b' false,i' 400,i' 0,AV.ptr 1 0,i' n,AV.ptr 2 0,i' z,s' v,i' i],156) [some (AO.cells [s' nil0,s' nil0,e',e'] 64),some (AO.cells [s' nil0,s' nil0,e',e'] 64),some (AO.cells [s' m,s' t,AV.slice 1000 0 (List.length L) 2 (Cp.lo (List.length L)),e'] 64),none,some (AO.cells (rowV encB P) 11),some (AO.cells (rowV encP L) 78),none,none,none,none] 1100 ((k106' i v).a ((k162' i).a ((k115' i v x).a ((k120' x).a (k36'.a (k157'.a (k12'.a t'))))))) := by kernel_rfl
theorem oNE_eq (P : List UInt8) (L : Hds) (m t v : ByteArray) (off len n z i : Nat) (F : HP) : AV' [] (AB' [(fRNx, 25, 3, hv (.lit false))]) [] default fRNx (A4' fRNx 25) (tms 0 156 (aN off len n v z i)) (oQ2r P m t L) kQ iN F = VT.leaf (AX.exit 2,[AV.slice 4 off len 1 (Cp.lo len),AV.ptr 0 0,a',a',a',AV.ptr 1 0,i' n,AV.ptr 2 0,i' z,s' v,i' i],156) [some (AO.cells [s' nil0,s' nil0,e',e'] 64),some (AO.cells [s' nil0,s' nil0,e',e'] 64),some (AO.cells [s' m,s' t,AV.slice 1000 0 (List.length L) 2 (Cp.lo (List.length L)),e'] 64),none,some (AO.cells (rowV encB P) 11),some (AO.cells (rowV encP L) 78),none,none,none,none] 1100 ((k107' i v).a t') := by kernel_rfl
theorem oNT_eq (P : List UInt8) (L : Hds) (m t v : ByteArray) (off len n z i : Nat) (F : HP) : AV' [] (AB' [(fRNx, 25, 3, hv (.lit true)), (fRNx, 25, 6, hv (.lit false))]) [] default fRNx (A4' fRNx 25) (tms 0 156 (aN off len n v z i)) (oQ2r P m t L) kQ iN F = VT.leaf (AX.exit 2,[AV.slice 4 off len 1 (Cp.lo len),AV.ptr 0 0,a',a',a',AV.ptr 1 0,i' n,AV.ptr 2 0,i' z,s' v,i' i],156) [some (AO.cells [s' nil0,s' nil0,e',e'] 64),some (AO.cells [s' nil0,s' nil0,e',e'] 64),some (AO.cells [s' m,s' t,AV.slice 1000 0 (List.length L) 2 (Cp.lo (List.length L)),e'] 64),none,some (AO.cells (rowV encB P) 11),some (AO.cells (rowV encP L) 78),none,none,none,none] 1100 ((k106' i v).a ((f' (Wk (b' (decide (Int.ofNat i < Int.ofNat 10))) g')).a t')) := by kernel_rfl
def gN5 : List AV → AP ((Nat × Nat × Nat) × Nat × Nat) := fun tmps => match getL tmps 0, getL tmps 2, getL tmps 6, getL tmps 9 with
 | .slice e _ _ _ _, .ptr a _, .ptr b _, .ptr c _ => .read c fun o => match o with
  | .cells [_, _, .slice h _ _ _ _, _] _ => .ret ((a, b, c), h, e)
  | _ => .fail "headers"
 | _, _, _, _ => .fail "digits"
def nmN5 (p : (Nat × Nat × Nat) × Nat × Nat) : Nat → Nat := fun k => match Nat.beq k 1000 with
 | true => p.2.1
 | false => match k with
  | 0 => p.1.1
  | 1 => p.1.2.1
  | 2 => p.1.2.2
  | 4 => p.2.2
  | k => k
def zN (off len n : Nat) (v : ByteArray) (z : Nat) : List (Nat × AV) := [(0, sO 4 off len), (2, .ptr 0 0), (6, .ptr 1 0), (7, iv (Int.ofNat n)), (9, .ptr 2 0), (14, iv (Int.ofNat z)), (16, sv v)]
def lN (P : List UInt8) (L : Hds) (m t v : ByteArray) (off len n z : Nat) : List AV → AP (AX × List AV) := mkL gN5 (fun _ => True) nmN5 (fun _ => tms 0 156 (aN off len n v 0 0)) (fun _ => oQ2r P m t L) (fun _ => .leaf (.exit 2) (tms 0 156 (zN off len n v z)) (oQ2r P m t L))
def lNx (P : List UInt8) (L : Hds) (m t v : ByteArray) (off len n : Nat) : List AV → AP (AX × List AV) := mkL gN5 (fun _ => True) nmN5 (fun _ => tms 0 156 (aN off len n v 0 0)) (fun _ => oQ2r P m t L) (fun _ => .leaf .ret (tms 0 156 xQ) [(0, rq00), (4, rB1 P)])
def hR1 (c1 c2 c3 c4 : Bool) : List (Nat × Nat × Nat × Hint) := [(fRNx, 3, 1, hv (.lit c1)), (fRNx, 3, 4, hv (.lit c2)), (fRNx, 3, 8, hv (.lit c3)), (fRNx, 3, 10, hv (.lit c4)), (fRNx, 5, 1, hv (.lit c2))]
def hR2 (e f : Bool) (l0 : ByteArray) : List (Nat × Nat × Nat × Hint) := [(fRNx, 8, 2, hv (.lit e)), (fRNx, 10, 2, hv (sv l0)), (fRNx, 11, 1, hv (.lit f))]
def hR3 (c : Bool) (v : ByteArray) (l1 l2 l3 : Bool) : List (Nat × Nat × Nat × Hint) := [(fRNx, 22, 1, hv (.lit c)), (fRNx, 23, 5, hv (sv v)), (fRNx, 30, 2, hv (.lit l1)), (fRNx, 30, 6, hv (.lit l2)), (fRNx, 30, 7, hv (.lit l3))]
def hR4 (n sz : Nat) (b1 b2 : Bool) : List (Nat × Nat × Nat × Hint) := [(fRNx, 32, 1, hv (.lit b1)), (fRNx, 34, 5, hv (.lit b2)), (fRNx, 36, 4, hv (iv (Int.ofNat (n + sz)))), (fRNx, 37, 3, hv (iv (Int.ofNat (n + sz))))]
def kR : List Nat := [0, 1100, 1101, 1102, 1103, 1104, 1105, 1106, 1107]
noncomputable section
abbrev k163' (q0 q1 : Nat) (q2 : List UInt8) : Cnd := ((p' True).a ((p' (VW [AV.slice 0 q0 q1 1 (Cp.lo q1)] [AV.slice 0 q0 q1 1 (Cp.lo q1)])).a (f' (OW (AO.cells (rowV encB q2) 11) (AO.cells (AV.rens (nm0 0) (rowV encB q2)) 11)))))
end
theorem oR1_eq (P : List UInt8) (off len : Nat) (F : HP) : wRun [(fRHd, cRHd P off len 0)] (AB' (hR1 false true true true)) [] default fRNx [sO 0 off len] [(0, rB1 P)] kR F = VT.leaf (AV.tuple [AV.agg [s' y0',s' y0',e',e'],b' false,i' 413,i' 0]) [some (AO.cells (AV.rens (sgN (nm0 0) [] 0) (rowV encB P)) 11),some (AO.cells [s' y0',s' y0',e',e'] 64),some (AO.cells [s' y0',s' y0',e',e'] 64),none,none,none,none,none,none] 1102 (k12'.a ((k163' off len P).a (k18'.a (k36'.a ((k63' len).a (k20'.a (k59'.a (k12'.a (k60'.a (k61'.a t')))))))))) := by kernel_rfl
theorem oR2_eq (P : List UInt8) (off len n : Nat) (F : HP) : wRun [(fRHd, cRHd P off len n)] (AB' (hR1 true false false true)) [] default fRNx [sO 0 off len] [(0, rB1 P)] kR F = VT.leaf (AV.tuple [AV.agg [s' y0',s' y0',e',e'],b' false,i' 413,i' 0]) [some (AO.cells (AV.rens (sgN (nm0 0) [] 0) (rowV encB P)) 11),some (AO.cells [s' y0',s' y0',e',e'] 64),some (AO.cells [s' y0',s' y0',e',e'] 64),none,none,none,none,none,none] 1102 (k12'.a ((k163' off len P).a ((k66' n).a (k20'.a (k59'.a (k12'.a (k60'.a (k61'.a t')))))))) := by kernel_rfl
theorem oR3_eq (P : List UInt8) (off len : Nat) (F : HP) : wRun [(fRHd, cRHd P off len 0)] (AB' (hR1 false true false false)) [] default fRNx [sO 0 off len] [(0, rB1 P)] kR F = VT.leaf (AV.tuple [AV.agg [s' y0',s' y0',e',e'],b' false,i' 0,i' 0]) [some (AO.cells (AV.rens (sgN (nm0 0) [] 0) (rowV encB P)) 11),some (AO.cells [s' y0',s' y0',e',e'] 64),some (AO.cells [s' y0',s' y0',e',e'] 64),none,none,none,none,none,none] 1102 (k12'.a ((k163' off len P).a (k18'.a (k36'.a ((k64' len).a (k34'.a (k36'.a (k59'.a (k12'.a (k60'.a (k61'.a t'))))))))))) := by kernel_rfl
noncomputable section
abbrev k164' (q0 : Nat) : Cnd := (f' (Wk (b' (Int.ofNat q0 == Int.ofNat 0)) g'))
abbrev k165' (q0 q1 q2 : Nat) (q3 : List UInt8) : Cnd := ((p' True).a ((p' (VW [AV.slice 0 q0 q1 1 (Cp.lo q2)] [AV.slice 0 q0 q1 1 (Cp.lo q1)])).a (f' (OW (AO.cells (AV.rens (sgN (nm0 0) [] 0) (rowV encB q3)) 11) (AO.cells (AV.rens (nm0 0) (rowV encB q3)) 11)))))
end
theorem oR4_eq (P : List UInt8) (M : List ByteArray) (off len n : Nat) (F : HP) : wRun [(fRHd, cRHd P off len n), (fRLs, cRLs P M off n 0)] (AB' (hR1 false false false false ++ hR2 true false nil0)) [] default fRNx [sO 0 off len] [(0, rB1 P)] kR F = VT.leaf (AV.tuple [AV.agg [s' y0',s' y0',e',e'],b' false,i' 400,i' 0]) [some (AO.cells (AV.rens (sgN (nm0 0) [1000] 1102) (rowV encB P)) 11),some (AO.cells [s' y0',s' y0',e',e'] 64),some (AO.cells [s' y0',s' y0',e',e'] 64),some (AO.cells (AV.rens (sgN (nm0 0) [1000] 1102) (rowV encS M)) 18),none,none,none,none,none] 1103 (k12'.a ((k163' off len P).a ((k67' n).a ((k164' n).a (k34'.a ((k164' n).a ((k68' n len).a ((k165' off n len P).a (k36'.a (k59'.a (k12'.a (k60'.a (k61'.a t'))))))))))))) := by kernel_rfl
noncomputable section
abbrev k166' (q0 : Nat) : Cnd := (f' (Nat.blt 0 q0 = true))
abbrev k167' (q0 q1 : Nat) (q2 : List ByteArray) (q3 : ByteArray) : Cnd := ((p' (Nat.blt 0 (AV.rens (sgN (nm0 0) [q0] q1) (rowV encS q2)).length = true)).a ((p' ((AV.rens (sgN (nm0 0) [q0] q1) (rowV encS q2)).getD 0 (u') = AV.v (Value.string ((AV.rens (sgN (nm0 0) [q0] q1) (rowV encS q2)).getD 0 (u')).strOf))).a (f' (Wk (AV.v (Value.string ((AV.rens (sgN (nm0 0) [q0] q1) (rowV encS q2)).getD 0 (u')).strOf)) (s' q3)))))
end
theorem oR5_eq (P : List UInt8) (M : List ByteArray) (l0 m t : ByteArray) (off len n k : Nat) (F : HP) : wRun [(fRHd, cRHd P off len n), (fRLs, cRLs P M off n k), (fFst, cFi l0 m t false)] (AB' (hR1 false false false false ++ hR2 false true l0)) [] default fRNx [sO 0 off len] [(0, rB1 P)] kR F = VT.leaf (AV.tuple [AV.agg [s' y0',s' y0',e',e'],b' false,i' 400,i' 0]) [some (AO.cells (AV.rens (sgN (nm0 0) [1000] 1102) (rowV encB P)) 11),some (AO.cells [s' y0',s' y0',e',e'] 64),some (AO.cells [s' y0',s' y0',e',e'] 64),some (AO.cells (AV.rens (sgN (nm0 0) [1000] 1102) (rowV encS M)) 18),some (AO.cells [s' m,s' t,e',e'] 64),none,none,none,none] 1104 (k12'.a ((k163' off len P).a ((k67' n).a ((k164' n).a (k34'.a ((k164' n).a ((k68' n len).a ((k165' off n len P).a ((k150' k).a ((k166' k).a ((k167' 1000 1102 M l0).a ((k156' l0).a (k12'.a (k36'.a (k59'.a (k12'.a (k60'.a (k61'.a t')))))))))))))))))) := by kernel_rfl
noncomputable section
abbrev k168' (q0 q1 q2 q3 q4 q5 q6 q7 : Nat) (q8 q9 q10 : ByteArray) : Cnd := (p' (VW (AV.slice 0 q0 q1 1 (Cp.lo q1)::u'::AV.ptr q2 0::b' false::i' 0::i' 0::AV.ptr q3 0::i' q4::AV.slice q5 0 q6 1 (Cp.lo q6)::AV.ptr q7 0::b' true::i' 1::ru4 (u'::u'::AV.agg [s' y0',s' y0',e',e']::AV.slice 0 q0 q1 1 (Cp.lo q1)::i' q4::i' q4::g'::g'::i' q4::g'::g'::u'::u'::u'::g'::g'::u'::i' q4::g'::u'::AV.slice 0 q0 q1 1 (Cp.lo q1)::i' q4::AV.slice 0 q0 q4 1 (Cp.lo q1)::AV.slice q5 0 q6 1 (Cp.lo q6)::AV.slice q5 0 q6 1 (Cp.lo q6)::z' ↑q6::g'::u'::AV.tuple [AV.agg [s' q8,s' q9,e',e'],b' true]::AV.slice q5 0 q6 1 (Cp.lo q6)::AV.ptr q5 0::s' q10::AV.tuple [AV.agg [s' q8,s' q9,e',e'],b' true]::AV.agg [s' q8,s' q9,e',e']::b' true::b' true::g'::ru16 (ru16 (ru16 (ru16 (ru16 (ru16 (ru4 (u'::u'::u'::[]))))))))) (AV.slice 0 q0 q1 1 (Cp.lo q1)::a'::AV.ptr q2 0::a'::a'::a'::AV.ptr q3 0::i' q4::AV.slice q5 0 q6 1 (Cp.lo q6)::AV.ptr q7 0::a'::i' 1::ra16 (ra16 (ra16 (ra16 (ra16 (ra16 (ra16 (ra16 (ra16 ([]))))))))))))
abbrev k169' (q0 q1 : Nat) (q2 : List ByteArray) (q3 q4 q5 : Nat) : Cnd := (p' (OW (AO.cells (AV.rens (sgN (nm0 0) [q0] q1) (rowV encS q2)) 18) (AO.cells (AV.rens (nmQ5 ((q3,q4,q5),q1,0)) (rowV encS q2)) 18)))
abbrev k170' (q0 q1 : Nat) (q2 : List UInt8) (q3 q4 q5 : Nat) : Cnd := (p' (OW (AO.cells (AV.rens (sgN (nm0 0) [q0] q1) (rowV encB q2)) 11) (AO.cells (AV.rens (nmQ5 ((q3,q4,q5),q1,0)) (rowV encB q2)) 11)))
end
theorem oR6_eq (P : List UInt8) (M : List ByteArray) (l0 m t : ByteArray) (off len n k : Nat) (F : HP) : wRun ([(fRHd, cRHd P off len n), (fRLs, cRLs P M off n k), (fFst, cFi l0 m t true)] ++ []) (AB' (hR1 false false false false ++ hR2 false false l0)) [(fRNx, 14, A4' fRNx 14, lQx P M m t off len n k)] default fRNx [sO 0 off len] [(0, rB1 P)] kR F = VT.leaf (AV.tuple [AV.agg [s' nil0,s' nil0,e',e'],b' false,i' 400,i' 0]) [some (AO.cells (AV.rens (sgN (nmQ5 ((1100,1101,1103),1102,0)) [] 0) (rowV encB P)) 11),some (AO.cells [s' nil0,s' nil0,e',e'] 64),none,none,none,none,none,none,none] 1104 (k12'.a ((k163' off len P).a ((k67' n).a ((k164' n).a (k34'.a ((k164' n).a ((k68' n len).a ((k165' off n len P).a ((k150' k).a ((k166' k).a ((k167' 1000 1102 M l0).a ((k156' l0).a (k12'.a (k18'.a ((p' ((fRNx,14,A4' fRNx 14,lQx P M m t off len n k).snd.snd.fst = (fRNx,14,A4' fRNx 14,lQx P M m t off len n k).snd.snd.fst)).a (k15'.a ((k168' off len 1100 1101 n 1102 k 1103 m t l0).a (k128'.a (k128'.a ((k79' m t).a ((k169' 1000 1102 M 1100 1101 1103).a ((k170' 1000 1102 P 1100 1101 1103).a (k60'.a (k83'.a t')))))))))))))))))))))))) := by kernel_rfl
theorem dK' (P : List UInt8) (M : List ByteArray) (l0 m t : ByteArray) (off len n k : Nat) (B : List UInt8) (F : HP) : wRun ([(fRHd, cRHd P off len n), (fRLs, cRLs P M off n k), (fFst, cFi l0 m t true)] ++ [(fFnd, NA' clB), (fCpy, cCp P B (off + n * 1) 0)]) (AB' (hR1 false false false false ++ hR2 false false l0 ++ hR3 false nil0 false false false ++ hR4 n 0 false false)) [(fRNx, 14, A4' fRNx 14, lQz P M m t off len n k)] default fRNx [sO 0 off len] [(0, rB1 P)] kR F = VT.leaf (AV.tuple [AV.agg [s' m,s' t,e',AV.slice 1104 0 0 1 (Cp.lo 0)],b' true,i' 0,i' n]) [some (AO.cells (AV.rens (sgN (nm0 0) [1000] 1104) (rowV encB P)) 11),some (AO.cells [s' m,s' t,e',AV.slice 1104 0 0 1 (Cp.lo 0)] 64),some (AO.cells [s' nil0,s' nil0,e',e'] 64),none,some (AO.cells [s' m,s' t,e',AV.slice 1104 0 0 1 (Cp.lo 0)] 64),some (AO.cells (AV.rens (sgN (nm0 0) [1000] 1104) (rowV encB B)) 10),none,none,none] 1105 (k12'.a ((k163' off len P).a ((k67' n).a ((k164' n).a (k34'.a ((k164' n).a ((k68' n len).a ((k165' off n len P).a ((k150' k).a ((k166' k).a ((k167' 1000 1102 M l0).a ((k156' l0).a (k12'.a (k18'.a ((p' ((fRNx,14,A4' fRNx 14,lQz P M m t off len n k).snd.snd.fst = (fRNx,14,A4' fRNx 14,lQz P M m t off len n k).snd.snd.fst)).a (k15'.a ((k168' off len 1100 1101 n 1102 k 1103 m t l0).a (k128'.a (k128'.a ((k79' m t).a ((k169' 1000 1102 M 1100 1101 1103).a ((k170' 1000 1102 P 1100 1101 1103).a (k12'.a (((Cnd.p True).a (f' (VW [e',s' y7'] [e',s' clB]))).a (k18'.a (k18'.a ((k94' len n).a ((k95' n).a ((k96' n len).a (((Cnd.p True).a ((p' (VW [AV.slice 0 (off + n * 1) (n - n) 1 (Cp.lo (len - n))] [AV.slice 0 (off + n * 1) 0 1 (Cp.lo 0)])).a (f' (OW (AO.cells (AV.rens (sgN (nmQ5 ((1100,1101,1103),1102,0)) [] 0) (rowV encB P)) 11) (AO.cells (AV.rens (nm0 0) (rowV encB P)) 11))))).a (k12'.a (((p' (true = true)).a (f' ([s' m,s' t,e',AV.slice 1104 0 0 1 (Cp.lo 0)] = [s' m,s' t,e',AV.slice 1104 0 0 1 (Cp.lo 0)]))).a ((k95' n).a (k12'.a (k60'.a (f' ([s' m,s' t,e',AV.slice 1104 0 0 1 (Cp.lo 0)] = [s' m,s' t,e',AV.slice 1104 0 0 1 (Cp.lo 0)]))))))))))))))))))))))))))))))))))))) := by kernel_rfl
noncomputable section
abbrev k171' (q0 : List UInt8) (q1 : List ByteArray) (q2 q3 : ByteArray) (q4 : Hds) (q5 q6 q7 q8 : Nat) : Cnd := (p' ((fRNx,14,A4' fRNx 14,lQr q0 q1 q2 q3 q4 q5 q6 q7 q8).snd.snd.fst = (fRNx,14,A4' fRNx 14,lQr q0 q1 q2 q3 q4 q5 q6 q7 q8).snd.snd.fst))
abbrev k172' (q0 : Nat) (q1 : Hds) (q2 q3 q4 q5 q6 : Nat) : Cnd := ((p' True).a ((p' (VW [AV.slice q0 0 (List.length q1) 2 (Cp.lo (List.length q1)),s' y7'] [AV.slice q0 0 (List.length q1) 2 (Cp.lo (List.length q1)),s' clB])).a (f' (OW (AO.cells (AV.rens (sgN (nmQ5 ((q2,q3,q4),q5,0)) [q6] q0) (rowV encP q1)) 78) (AO.cells (AV.rens (nm0 q0) (rowV encP q1)) 78)))))
end
theorem dL' (P : List UInt8) (M : List ByteArray) (l0 m t : ByteArray) (off len n k : Nat) (L : Hds) (B : List UInt8) (F : HP) : wRun ([(fRHd, cRHd P off len n), (fRLs, cRLs P M off n k), (fFst, cFi l0 m t true)] ++ [(fFnd, cFnd L clB (-1)), (fCpy, cCp P B (off + n * 1) 0)]) (AB' (hR1 false false false false ++ hR2 false false l0 ++ hR3 false nil0 false false false ++ hR4 n 0 false false)) [(fRNx, 14, A4' fRNx 14, lQr P M m t L off len n k)] default fRNx [sO 0 off len] [(0, rB1 P)] kR F = VT.leaf (AV.tuple [AV.agg [s' m,s' t,AV.slice 1104 0 (List.length L) 2 (Cp.lo (List.length L)),AV.slice 1105 0 0 1 (Cp.lo 0)],b' true,i' 0,i' n]) [some (AO.cells (AV.rens (sgN (nm0 0) [1000] 1105) (rowV encB P)) 11),some (AO.cells [s' m,s' t,AV.slice 1104 0 (List.length L) 2 (Cp.lo (List.length L)),AV.slice 1105 0 0 1 (Cp.lo 0)] 64),some (AO.cells [s' nil0,s' nil0,e',e'] 64),none,some (AO.cells [s' m,s' t,AV.slice 1104 0 (List.length L) 2 (Cp.lo (List.length L)),AV.slice 1105 0 0 1 (Cp.lo 0)] 64),some (AO.cells (AV.rens (sgN (nm0 1104) [] 0) (rowV encP L)) 78),some (AO.cells (AV.rens (sgN (nm0 0) [1000] 1105) (rowV encB B)) 10),none,none] 1106 (k12'.a ((k163' off len P).a ((k67' n).a ((k164' n).a (k34'.a ((k164' n).a ((k68' n len).a ((k165' off n len P).a ((k150' k).a ((k166' k).a ((k167' 1000 1102 M l0).a ((k156' l0).a (k12'.a (k18'.a ((k171' P M m t L off len n k).a (k15'.a ((k168' off len 1100 1101 n 1102 k 1103 m t l0).a (k128'.a (k128'.a ((k79' m t).a ((k169' 1000 1102 M 1100 1101 1103).a ((k170' 1000 1102 P 1100 1101 1103).a (k12'.a ((k172' 1104 L 1100 1101 1103 1102 1000).a (k18'.a (k18'.a ((k94' len n).a ((k95' n).a ((k96' n len).a (((Cnd.p True).a ((p' (VW [AV.slice 0 (off + n * 1) (n - n) 1 (Cp.lo (len - n))] [AV.slice 0 (off + n * 1) 0 1 (Cp.lo 0)])).a (f' (OW (AO.cells (AV.rens (sgN (nmQ5 ((1100,1101,1103),1102,0)) [1000] 1104) (rowV encB P)) 11) (AO.cells (AV.rens (nm0 0) (rowV encB P)) 11))))).a (k12'.a (((p' (true = true)).a (f' ([s' m,s' t,AV.slice 1104 0 (List.length L) 2 (Cp.lo (List.length L)),AV.slice 1105 0 0 1 (Cp.lo 0)] = [s' m,s' t,AV.slice 1104 0 (List.length L) 2 (Cp.lo (List.length L)),AV.slice 1105 0 0 1 (Cp.lo 0)]))).a ((k95' n).a (k12'.a (k60'.a (f' ([s' m,s' t,AV.slice 1104 0 (List.length L) 2 (Cp.lo (List.length L)),AV.slice 1105 0 0 1 (Cp.lo 0)] = [s' m,s' t,AV.slice 1104 0 (List.length L) 2 (Cp.lo (List.length L)),AV.slice 1105 0 0 1 (Cp.lo 0)]))))))))))))))))))))))))))))))))))))) := by kernel_rfl
noncomputable section
abbrev k173' (q0 : Nat) (q1 : Hds) : Cnd := (f' (q0.blt (List.length q1) = true))
abbrev k174' (q0 q1 : Nat) (q2 : Hds) (q3 : ByteArray) : Cnd := ((p' ((0 + q0 * 2 + 1).blt (AV.rens (sgN (nm0 q1) [] 0) (rowV encP q2)).length = true)).a ((p' ((AV.rens (sgN (nm0 q1) [] 0) (rowV encP q2)).getD (0 + q0 * 2 + 1) (u') = AV.v (Value.string ((AV.rens (sgN (nm0 q1) [] 0) (rowV encP q2)).getD (0 + q0 * 2 + 1) (u')).strOf))).a (f' (Wk (AV.v (Value.string ((AV.rens (sgN (nm0 q1) [] 0) (rowV encP q2)).getD (0 + q0 * 2 + 1) (u')).strOf)) (s' q3)))))
abbrev k175' (q0 q1 q2 q3 q4 q5 q6 : Nat) (q7 : ByteArray) (q8 : Nat) (q9 : Hds) : Cnd := (p' (VW (AV.slice 0 q0 q1 1 (Cp.lo q1)::a'::AV.ptr q2 0::a'::a'::a'::AV.ptr q3 0::i' q4::a'::AV.ptr q5 0::ra4 (i' 0::i' q6::s' q7::i' 0::ra16 (ra16 (ra16 (ra16 (ra8 (AV.ptr q5 2::AV.slice q8 0 (List.length q9) 2 (Cp.lo (List.length q9))::i' q6::i' q6::j'::AV.ptr q5 2::AV.slice q8 0 (List.length q9) 2 (Cp.lo (List.length q9))::i' q6::AV.ptr q8 (0 + q6 * 2)::AV.ptr q8 (0 + q6 * 2 + 1)::s' q7::ra16 (ra16 (ra16 (ra4 (a'::a'::a'::[]))))))))))) (AV.slice 0 q0 q1 1 (Cp.lo q1)::a'::AV.ptr q2 0::a'::a'::a'::AV.ptr q3 0::i' q4::a'::AV.ptr q5 0::ra4 (i' 0::a'::s' q7::i' 0::ra16 (ra16 (ra16 (ra16 (ra16 (ra16 (ra16 (ra16 (ra8 (a'::a'::[])))))))))))))
abbrev k176' (q0 q1 : ByteArray) (q2 : Nat) (q3 : Hds) : Cnd := (p' (OW (AO.cells [s' q0,s' q1,AV.slice q2 0 (List.length q3) 2 (Cp.lo (List.length q3)),e'] 64) (AO.cells [s' q0,s' q1,AV.slice q2 0 (List.length q3) 2 (Cp.lo (List.length q3)),e'] 64)))
abbrev k177' (q0 q1 q2 q3 q4 q5 : Nat) (q6 : List UInt8) : Cnd := (p' (OW (AO.cells (AV.rens (sgN (nmQ5 ((q0,q1,q2),q3,0)) [q4] q5) (rowV encB q6)) 11) (AO.cells (AV.rens (nmN5 ((q0,q1,q2),q5,0)) (rowV encB q6)) 11)))
abbrev k178' (q0 : Nat) (q1 : Hds) (q2 q3 q4 : Nat) : Cnd := (p' (OW (AO.cells (AV.rens (sgN (nm0 q0) [] 0) (rowV encP q1)) 78) (AO.cells (AV.rens (nmN5 ((q2,q3,q4),q0,0)) (rowV encP q1)) 78)))
end
theorem oR8_eq (P : List UInt8) (M : List ByteArray) (l0 m t : ByteArray) (off len n k : Nat) (L : Hds) (v : ByteArray) (j : Nat) (F : HP) : wRun ([(fRHd, cRHd P off len n), (fRLs, cRLs P M off n k), (fFst, cFi l0 m t true)] ++ [(fFnd, cFnd L clB (Int.ofNat j))]) (AB' (hR1 false false false false ++ hR2 false false l0 ++ hR3 true v false false false)) [(fRNx, 14, A4' fRNx 14, lQr P M m t L off len n k), (fRNx, 25, A4' fRNx 25, lNx P L m t v off len n)] default fRNx [sO 0 off len] [(0, rB1 P)] kR F = VT.leaf (AV.tuple [AV.agg [s' nil0,s' nil0,e',e'],b' false,i' 400,i' 0]) [some (AO.cells (AV.rens (sgN (nmN5 ((1100,1101,1103),1104,0)) [] 0) (rowV encB P)) 11),some (AO.cells [s' nil0,s' nil0,e',e'] 64),none,none,none,none,none,none,none] 1105 (k12'.a ((k163' off len P).a ((k67' n).a ((k164' n).a (k34'.a ((k164' n).a ((k68' n len).a ((k165' off n len P).a ((k150' k).a ((k166' k).a ((k167' 1000 1102 M l0).a ((k156' l0).a (k12'.a (k18'.a ((k171' P M m t L off len n k).a (k15'.a ((k168' off len 1100 1101 n 1102 k 1103 m t l0).a (k128'.a (k128'.a ((k79' m t).a ((k169' 1000 1102 M 1100 1101 1103).a ((k170' 1000 1102 P 1100 1101 1103).a (k12'.a ((k172' 1104 L 1100 1101 1103 1102 1000).a (k36'.a (k12'.a ((k173' j L).a ((k174' j 1104 L v).a ((p' ((fRNx,25,A4' fRNx 25,lNx P L m t v off len n).snd.snd.fst = (fRNx,25,A4' fRNx 25,lNx P L m t v off len n).snd.snd.fst)).a (k15'.a ((k175' off len 1100 1101 n 1103 j v 1104 L).a (k131'.a (k131'.a ((k176' m t 1104 L).a ((k177' 1100 1101 1103 1102 1000 1104 P).a ((k178' 1104 L 1100 1101 1103).a (k60'.a (k83'.a t')))))))))))))))))))))))))))))))))))))) := by kernel_rfl
noncomputable section
abbrev k179' (q0 : List UInt8) (q1 : Hds) (q2 q3 q4 : ByteArray) (q5 q6 q7 q8 : Nat) : Cnd := (p' ((fRNx,25,A4' fRNx 25,lN q0 q1 q2 q3 q4 q5 q6 q7 q8).snd.snd.fst = (fRNx,25,A4' fRNx 25,lN q0 q1 q2 q3 q4 q5 q6 q7 q8).snd.snd.fst))
end
theorem dJ' (P : List UInt8) (M : List ByteArray) (l0 m t : ByteArray) (off len n k : Nat) (L : Hds) (v : ByteArray) (j z : Nat) (F : HP) : wRun ([(fRHd, cRHd P off len n), (fRLs, cRLs P M off n k), (fFst, cFi l0 m t true)] ++ [(fFnd, cFnd L clB (Int.ofNat j))]) (AB' (hR1 false false false false ++ hR2 false false l0 ++ hR3 true v true false true)) [(fRNx, 14, A4' fRNx 14, lQr P M m t L off len n k), (fRNx, 25, A4' fRNx 25, lN P L m t v off len n z)] default fRNx [sO 0 off len] [(0, rB1 P)] kR F = VT.leaf (AV.tuple [AV.agg [s' nil0,s' nil0,e',e'],b' false,i' 400,i' 0]) [some (AO.cells (AV.rens (sgN (nmN5 ((1100,1101,1103),1104,0)) [1000] 1105) (rowV encB P)) 11),some (AO.cells [s' nil0,s' nil0,e',e'] 64),some (AO.cells [s' nil0,s' nil0,e',e'] 64),none,some (AO.cells [s' m,s' t,AV.slice 1105 0 (List.length L) 2 (Cp.lo (List.length L)),e'] 64),none,some (AO.cells (AV.rens (sgN (nmN5 ((1100,1101,1103),1104,0)) [1000] 1105) (rowV encP L)) 78),none,none] 1106 (k12'.a ((k163' off len P).a ((k67' n).a ((k164' n).a (k34'.a ((k164' n).a ((k68' n len).a ((k165' off n len P).a ((k150' k).a ((k166' k).a ((k167' 1000 1102 M l0).a ((k156' l0).a (k12'.a (k18'.a ((k171' P M m t L off len n k).a (k15'.a ((k168' off len 1100 1101 n 1102 k 1103 m t l0).a (k128'.a (k128'.a ((k79' m t).a ((k169' 1000 1102 M 1100 1101 1103).a ((k170' 1000 1102 P 1100 1101 1103).a (k12'.a ((k172' 1104 L 1100 1101 1103 1102 1000).a (k36'.a (k12'.a ((k173' j L).a ((k174' j 1104 L v).a ((k179' P L m t v off len n z).a (k15'.a ((k175' off len 1100 1101 n 1103 j v 1104 L).a (k131'.a (k131'.a ((k176' m t 1104 L).a ((k177' 1100 1101 1103 1102 1000 1104 P).a ((k178' 1104 L 1100 1101 1103).a ((k125' v).a (k20'.a (k157'.a (k12'.a (k60'.a (k83'.a t')))))))))))))))))))))))))))))))))))))))))) := by kernel_rfl
theorem dI' (P : List UInt8) (M : List ByteArray) (l0 m t : ByteArray) (off len n k : Nat) (L : Hds) (v : ByteArray) (j z : Nat) (F : HP) : wRun ([(fRHd, cRHd P off len n), (fRLs, cRLs P M off n k), (fFst, cFi l0 m t true)] ++ [(fFnd, cFnd L clB (Int.ofNat j))]) (AB' (hR1 false false false false ++ hR2 false false l0 ++ hR3 true v false true true)) [(fRNx, 14, A4' fRNx 14, lQr P M m t L off len n k), (fRNx, 25, A4' fRNx 25, lN P L m t v off len n z)] default fRNx [sO 0 off len] [(0, rB1 P)] kR F = VT.leaf (AV.tuple [AV.agg [s' nil0,s' nil0,e',e'],b' false,i' 400,i' 0]) [some (AO.cells (AV.rens (sgN (nmN5 ((1100,1101,1103),1104,0)) [1000] 1105) (rowV encB P)) 11),some (AO.cells [s' nil0,s' nil0,e',e'] 64),some (AO.cells [s' nil0,s' nil0,e',e'] 64),none,some (AO.cells [s' m,s' t,AV.slice 1105 0 (List.length L) 2 (Cp.lo (List.length L)),e'] 64),none,some (AO.cells (AV.rens (sgN (nmN5 ((1100,1101,1103),1104,0)) [1000] 1105) (rowV encP L)) 78),none,none] 1106 (k12'.a ((k163' off len P).a ((k67' n).a ((k164' n).a (k34'.a ((k164' n).a ((k68' n len).a ((k165' off n len P).a ((k150' k).a ((k166' k).a ((k167' 1000 1102 M l0).a ((k156' l0).a (k12'.a (k18'.a ((k171' P M m t L off len n k).a (k15'.a ((k168' off len 1100 1101 n 1102 k 1103 m t l0).a (k128'.a (k128'.a ((k79' m t).a ((k169' 1000 1102 M 1100 1101 1103).a ((k170' 1000 1102 P 1100 1101 1103).a (k12'.a ((k172' 1104 L 1100 1101 1103 1102 1000).a (k36'.a (k12'.a ((k173' j L).a ((k174' j 1104 L v).a ((k179' P L m t v off len n z).a (k15'.a ((k175' off len 1100 1101 n 1103 j v 1104 L).a (k131'.a (k131'.a ((k176' m t 1104 L).a ((k177' 1100 1101 1103 1102 1000 1104 P).a ((k178' 1104 L 1100 1101 1103).a ((k126' v).a ((k54' v).a (k20'.a (k157'.a (k12'.a (k60'.a (k83'.a t'))))))))))))))))))))))))))))))))))))))))))) := by kernel_rfl
theorem dO' (P : List UInt8) (M : List ByteArray) (l0 m t : ByteArray) (off len n k : Nat) (L : Hds) (v : ByteArray) (j z : Nat) (F : HP) : wRun ([(fRHd, cRHd P off len n), (fRLs, cRLs P M off n k), (fFst, cFi l0 m t true)] ++ [(fFnd, cFnd L clB (Int.ofNat j))]) (AB' (hR1 false false false false ++ hR2 false false l0 ++ hR3 true v false false false ++ hR4 n z true false)) [(fRNx, 14, A4' fRNx 14, lQr P M m t L off len n k), (fRNx, 25, A4' fRNx 25, lN P L m t v off len n z)] default fRNx [sO 0 off len] [(0, rB1 P)] kR F = VT.leaf (AV.tuple [AV.agg [s' nil0,s' nil0,e',e'],b' false,i' 413,i' 0]) [some (AO.cells (AV.rens (sgN (nmN5 ((1100,1101,1103),1104,0)) [1000] 1105) (rowV encB P)) 11),some (AO.cells [s' nil0,s' nil0,e',e'] 64),some (AO.cells [s' nil0,s' nil0,e',e'] 64),none,some (AO.cells [s' m,s' t,AV.slice 1105 0 (List.length L) 2 (Cp.lo (List.length L)),e'] 64),none,some (AO.cells (AV.rens (sgN (nmN5 ((1100,1101,1103),1104,0)) [1000] 1105) (rowV encP L)) 78),none,none] 1106 (k12'.a ((k163' off len P).a ((k67' n).a ((k164' n).a (k34'.a ((k164' n).a ((k68' n len).a ((k165' off n len P).a ((k150' k).a ((k166' k).a ((k167' 1000 1102 M l0).a ((k156' l0).a (k12'.a (k18'.a ((k171' P M m t L off len n k).a (k15'.a ((k168' off len 1100 1101 n 1102 k 1103 m t l0).a (k128'.a (k128'.a ((k79' m t).a ((k169' 1000 1102 M 1100 1101 1103).a ((k170' 1000 1102 P 1100 1101 1103).a (k12'.a ((k172' 1104 L 1100 1101 1103 1102 1000).a (k36'.a (k12'.a ((k173' j L).a ((k174' j 1104 L v).a ((k179' P L m t v off len n z).a (k15'.a ((k175' off len 1100 1101 n 1103 j v 1104 L).a (k131'.a (k131'.a ((k176' m t 1104 L).a ((k177' 1100 1101 1103 1102 1000 1104 P).a ((k178' 1104 L 1100 1101 1103).a ((k126' v).a ((k55' v).a (k34'.a ((k86' z).a (k157'.a (k12'.a (k60'.a (k83'.a t')))))))))))))))))))))))))))))))))))))))))))) := by kernel_rfl
theorem dN' (P : List UInt8) (M : List ByteArray) (l0 m t : ByteArray) (off len n k : Nat) (L : Hds) (v : ByteArray) (j z : Nat) (F : HP) : wRun ([(fRHd, cRHd P off len n), (fRLs, cRLs P M off n k), (fFst, cFi l0 m t true)] ++ [(fFnd, cFnd L clB (Int.ofNat j))]) (AB' (hR1 false false false false ++ hR2 false false l0 ++ hR3 true v false false false ++ hR4 n z false true)) [(fRNx, 14, A4' fRNx 14, lQr P M m t L off len n k), (fRNx, 25, A4' fRNx 25, lN P L m t v off len n z)] default fRNx [sO 0 off len] [(0, rB1 P)] kR F = VT.leaf (AV.tuple [AV.agg [s' nil0,s' nil0,e',e'],b' false,i' 0,i' 0]) [some (AO.cells (AV.rens (sgN (nmN5 ((1100,1101,1103),1104,0)) [1000] 1105) (rowV encB P)) 11),some (AO.cells [s' nil0,s' nil0,e',e'] 64),some (AO.cells [s' nil0,s' nil0,e',e'] 64),none,some (AO.cells [s' m,s' t,AV.slice 1105 0 (List.length L) 2 (Cp.lo (List.length L)),e'] 64),none,some (AO.cells (AV.rens (sgN (nmN5 ((1100,1101,1103),1104,0)) [1000] 1105) (rowV encP L)) 78),none,none] 1106 (k12'.a ((k163' off len P).a ((k67' n).a ((k164' n).a (k34'.a ((k164' n).a ((k68' n len).a ((k165' off n len P).a ((k150' k).a ((k166' k).a ((k167' 1000 1102 M l0).a ((k156' l0).a (k12'.a (k18'.a ((k171' P M m t L off len n k).a (k15'.a ((k168' off len 1100 1101 n 1102 k 1103 m t l0).a (k128'.a (k128'.a ((k79' m t).a ((k169' 1000 1102 M 1100 1101 1103).a ((k170' 1000 1102 P 1100 1101 1103).a (k12'.a ((k172' 1104 L 1100 1101 1103 1102 1000).a (k36'.a (k12'.a ((k173' j L).a ((k174' j 1104 L v).a ((k179' P L m t v off len n z).a (k15'.a ((k175' off len 1100 1101 n 1103 j v 1104 L).a (k131'.a (k131'.a ((k176' m t 1104 L).a ((k177' 1100 1101 1103 1102 1000 1104 P).a ((k178' 1104 L 1100 1101 1103).a ((k126' v).a ((k55' v).a (k34'.a ((k87' z).a ((k88' len n z).a (k157'.a (k12'.a (k60'.a (k83'.a t'))))))))))))))))))))))))))))))))))))))))))))) := by kernel_rfl
theorem dM' (P : List UInt8) (M : List ByteArray) (l0 m t : ByteArray) (off len n k : Nat) (L : Hds) (v : ByteArray) (B : List UInt8) (j z : Nat) (F : HP) : wRun ([(fRHd, cRHd P off len n), (fRLs, cRLs P M off n k), (fFst, cFi l0 m t true)] ++ [(fFnd, cFnd L clB (Int.ofNat j)), (fCpy, cCp P B (off + n * 1) z)]) (AB' (hR1 false false false false ++ hR2 false false l0 ++ hR3 true v false false false ++ hR4 n z false false)) [(fRNx, 14, A4' fRNx 14, lQr P M m t L off len n k), (fRNx, 25, A4' fRNx 25, lN P L m t v off len n z)] default fRNx [sO 0 off len] [(0, rB1 P)] kR F = VT.leaf (AV.tuple [AV.agg [s' m,s' t,AV.slice 1105 0 (List.length L) 2 (Cp.lo (List.length L)),AV.slice 1106 0 z 1 (Cp.lo z)],b' true,i' 0,i' (n + z)]) [some (AO.cells (AV.rens (sgN (nm0 0) [1000] 1106) (rowV encB P)) 11),some (AO.cells [s' m,s' t,AV.slice 1105 0 (List.length L) 2 (Cp.lo (List.length L)),AV.slice 1106 0 z 1 (Cp.lo z)] 64),some (AO.cells [s' nil0,s' nil0,e',e'] 64),none,some (AO.cells [s' m,s' t,AV.slice 1105 0 (List.length L) 2 (Cp.lo (List.length L)),AV.slice 1106 0 z 1 (Cp.lo z)] 64),none,some (AO.cells (AV.rens (sgN (nmN5 ((1100,1101,1103),1104,0)) [1000] 1105) (rowV encP L)) 78),some (AO.cells (AV.rens (sgN (nm0 0) [1000] 1106) (rowV encB B)) 10),none] 1107 (k12'.a ((k163' off len P).a ((k67' n).a ((k164' n).a (k34'.a ((k164' n).a ((k68' n len).a ((k165' off n len P).a ((k150' k).a ((k166' k).a ((k167' 1000 1102 M l0).a ((k156' l0).a (k12'.a (k18'.a ((k171' P M m t L off len n k).a (k15'.a ((k168' off len 1100 1101 n 1102 k 1103 m t l0).a (k128'.a (k128'.a ((k79' m t).a ((k169' 1000 1102 M 1100 1101 1103).a ((k170' 1000 1102 P 1100 1101 1103).a (k12'.a ((k172' 1104 L 1100 1101 1103 1102 1000).a (k36'.a (k12'.a ((k173' j L).a ((k174' j 1104 L v).a ((k179' P L m t v off len n z).a (k15'.a ((k175' off len 1100 1101 n 1103 j v 1104 L).a (k131'.a (k131'.a ((k176' m t 1104 L).a ((k177' 1100 1101 1103 1102 1000 1104 P).a ((k178' 1104 L 1100 1101 1103).a ((k126' v).a ((k55' v).a (k34'.a ((k87' z).a ((k89' len n z).a ((k90' n z).a ((k91' n z len).a (((Cnd.p True).a ((p' (VW [AV.slice 0 (off + n * 1) (n + z - n) 1 (Cp.lo (len - n))] [AV.slice 0 (off + n * 1) z 1 (Cp.lo z)])).a (f' (OW (AO.cells (AV.rens (sgN (nmN5 ((1100,1101,1103),1104,0)) [1000] 1105) (rowV encB P)) 11) (AO.cells (AV.rens (nm0 0) (rowV encB P)) 11))))).a (k12'.a ((k92' m t 1105 L 1106 z).a ((k90' n z).a (k12'.a (k60'.a ((k93' m t 1105 L 1106 z).a t')))))))))))))))))))))))))))))))))))))))))))))))))) := by kernel_rfl
end
theorem gCp_ro : ∀ args, RO (gCp args) := by
 intro args
 unfold gCp
 split
 ·exact RO.ret _
 ·exact RO.fail _
theorem N4' : ∀ args, RO (gQ args) := by
 intro args
 unfold gQ
 split
 ·exact RO.ret _
 ·exact RO.fail _
theorem M8' : ∀ args, RO (gN5 args) := by
 intro args
 unfold gN5
 split
 ·refine RO.read _ _ fun o => ?_
  split
  ·exact RO.ret _
  ·exact RO.fail _
 ·exact RO.fail _
section
variable {P : List UInt8} {off n : Nat} (hoff : off + n ≤ P.length) (hn : n ≤ 4000000)
include hoff hn
theorem hG' : LTri Tryz.prog default (A4' fCpy 3) (tms 0 20 (aCp off n 0 0)) [(0, rB1 P), (1000, rB [])] (.exit 0) (tms 0 20 [(3, sB 1000 n)]) [(0, rB1 P), (1000, rB ((P.drop off).take n))] := by
 refine AS' (W := default) (g := fCpy) (b := A4' fCpy 3) (σ := {i : Nat // i ≤ n}) 20 (fun i => aCp off n i.1 i.1) (fun i => [(0, rB1 P), (1000, rB ((P.drop off).take i.1))]) (.exit 0) [(3, sB 1000 n)] [(0, rB1 P), (1000, rB ((P.drop off).take n))] (fun i => n - i.1) kCp iCp (by intro h; cases h) (fun _ => rfl) rfl ?_ ⟨0, Nat.zero_le _⟩
 rintro ⟨i, hi⟩
 simp only
 have hl : ((P.drop off).take i).length = i := by rw [List.length_take, List.length_drop]; omega
 by_cases hlt : i < n
 ·have hwi := AO' i (by omega)
  have e1 := ltTN hlt
  have g3 : i.blt n = true := by rw [Nat.blt_eq]; exact hlt
  have g2 : off + i < (rowV encB P).length := by rw [BR']; omega
  have g1 : ∀ d, (rowV encB P).getD (off + i) d = byv (P.getD (off + i) 0) := fun d => by
   have := aQ' P (off + i) (by omega) d
   simpa using this
  have k1 := bR' hl
  have k2 := Q5' hl
  have hsn : (P.drop off).take (i + 1) = (P.drop off).take i ++ [P.getD (off + i) 0] := by
   rw [List.take_add_one]
   congr 1
   rw [List.getElem?_drop]
   have : off + i < P.length := by omega
   simp [List.getD_eq_getElem?_getD, List.getElem?_eq_getElem this]
  have a1 : List.take (i * 1) (List.drop 0 (rowV encB ((P.drop off).take i))) ++ [AV.v (Value.int IntKind.u8 ↑(P.getD (off + i) 0).toNat)] = rowV encB ((P.drop off).take (i + 1)) := by rw [hsn]; exact Q6' hl [P.getD (off + i) 0]
  generalize P.getD (off + i) 0 = x at *
  have b1 : ((i + 1) * 1).ble 140737488355328 = true := C6' (by omega)
  have b2 : (i + 1).ble 9223372036854775807 = true := C6' (by omega)
  simp only [Nat.mul_one] at k1 k2 b1
  refine ⟨[], AB' [(fCpy, 3, 3, hv (.lit true)), (fCpy, 5, 4, hv (byv x)), (fCpy, 4, 1, hv (iv (Int.ofNat (i + 1))))], [], fun _ _ => noC, fun _ _ => noL, fun F => ?_⟩
  refine cv (gG' P ((P.drop off).take i) x off n i i F) ⟨⟨?_, rfl, .inl ⟨rfl, ⟨i + 1, hlt⟩, AR' hlt, [(1000, 1101)], by kernel_rfl, by kernel_rfl, ⟨w0, w0, w0, t0⟩, ⟨_, rfl, AJ' rfl rfl⟩, ⟨_, rfl, BW' a1 rfl⟩, t0⟩⟩⟩
  simp only [Cnd.holds, Nat.mul_one, g1, g2, g3, k1, k2, b1, b2, byv, AV.intOf, Nat.blt_eq, true_and, and_true]
  and_intros
  all_goals first
   | exact AG' hwi
   | exact A1' e1 | (with_reducible first | exact t0 | exact r0 | exact A6' _ | assumption) | exact r0 | ((repeat (first | exact VW.nil | refine c1 ?_ | refine c2 ?_ | refine c3 ?_)); done)
 ·have hie : i = n := by omega
  subst hie
  refine ⟨[], AB' [(fCpy, 3, 3, hv (.lit false))], [], fun _ _ => noC, fun _ _ => noL, fun F => ?_⟩
  refine cv (gH' P ((P.drop off).take i) off i i i F) ⟨⟨?_, rfl, .inr ⟨rfl, [(1000, 1000)], by kernel_rfl, by kernel_rfl, ⟨w0, t0⟩, ⟨_, rfl, AJ' rfl rfl⟩, ⟨_, rfl, BW' rfl rfl⟩, t0⟩⟩⟩
  simp only [Cnd.holds, A2', Nat.blt_eq, true_and, and_true]
  and_intros
  all_goals first
   | exact A1' (ltFN (n0)) | (with_reducible first | exact t0 | exact r0 | exact A6' _ | assumption) | exact r0 | ((repeat (first | exact VW.nil | refine c1 ?_ | refine c2 ?_ | refine c3 ?_)); done)
theorem aH' : Tri Tryz.prog default fCpy [sO 0 off n] [(0, rB1 P)] (sB 1000 n) [(0, rB1 P), (1000, rB ((P.drop off).take n))] := by
 refine AA' (con := []) (hints := BS') (lc := [(fCpy, 3, A4' fCpy 3, lCp P ((P.drop off).take n) off n)]) [0, 1100, 1101] rfl (fun F _ => noC) (fun F hF => BE' (AW' (AE'.nothing F) gCp_ro (fun _ _ => by
  simp only [RT.pick]
  exact hG' hoff hn) fun _ => by
  simp only [RT.pick]
  exact AQ' rfl rfl (A0' rfl (A0' rfl (A0' t0 A3'))) (A0' (AM' _ _) (A0' (CE' _ _) A3')) (A0' rfl A3') (A0' (AM' _ _) (A0' (CE' _ _) A3')))) fun F => ?_
 refine cv (oCp_eq P ((P.drop off).take n) off n F) ⟨⟨?_, (AF' (vs' := [sB 1000 n]) (H' := [(0, rB1 P), (1000, rB ((P.drop off).take n))]) [(1000, 1101)] rfl rfl (v0) ⟨⟨_, rfl, AJ' (by simp only [A2']) rfl⟩, ⟨_, rfl, BW' (by simp only [A2']) rfl⟩, t0⟩).fits rfl⟩⟩
 simp only [Cnd.holds, A2', Nat.blt_eq, true_and, and_true]
 and_intros
 all_goals first
  | (rw [A2']; exact o0) | (with_reducible first | exact t0 | exact r0 | exact A6' _ | assumption) | exact r0 | ((repeat (first | exact VW.nil | refine c1 ?_ | refine c2 ?_ | refine c3 ?_)); done)
end
section
variable (F : HP)
theorem L5' {s k v : ByteArray} {b : Bool} (h : Tri Tryz.prog default fFld [sv s] [] (.tuple [.agg [sv k, sv v], bv b]) []) : C1OK Tryz.prog F fFld (cFd s k v b) :=
 BK' (AE'.nothing F) (fun _ => .tuple [.agg [sv k, sv v], bv b]) (fun _ => RO.ret _) (fun _ => rfl) (fun _ _ => h) fun _ => ⟨rfl, rfl, ⟨t0, t0⟩, A3', ⟨⟨⟨t0, t0, t0⟩, t0, t0⟩, t0⟩, A3'⟩
theorem HN' {s m t : ByteArray} {b : Bool} (h : Tri Tryz.prog default fFst [sv s] [] (.tuple [rqV m t nilP nilB, bv b]) []) : C1OK Tryz.prog F fFst (cFi s m t b) :=
 BK' (AE'.nothing F) (fun _ => .tuple [rqV m t nilP nilB, bv b]) (fun _ => RO.ret _) (fun _ => rfl) (fun _ _ => h) fun _ => ⟨rfl, rfl, ⟨t0, t0⟩, A3', ⟨⟨⟨t0, t0, t0, t0, t0⟩, t0, t0⟩, t0⟩, A3'⟩
theorem E7' {L : Hds} {name : ByteArray} {z : Int} (h : Tri Tryz.prog default fFnd [sP 0 L.length, sv name] [(0, rP L)] (iv z) [(0, rP L)]) : C1OK Tryz.prog F fFnd (cFnd L name z) :=
 BK' (AE'.nothing F) (fun _ => iv z) GT' (fun _ => rfl) (fun _ _ => h) fun _ => ⟨rfl, rfl, ⟨rfl, t0, t0⟩, A0' (BN' _ _) A3', ⟨t0, t0⟩, A0' (BN' _ _) A3'⟩
theorem K4' (name : ByteArray) : C1OK Tryz.prog F fFnd (NA' name) :=
 BK' (AE'.nothing F) (fun _ => iv (-1)) (fun _ => RO.ret _) (fun _ => rfl) (fun _ _ => WY' name) fun _ => ⟨rfl, rfl, ⟨t0, t0, t0⟩, A3', ⟨t0, t0⟩, A3'⟩
theorem W0' {P : List UInt8} {off n : Nat} (hoff : off + n ≤ P.length) (hn : n ≤ 4000000) {B : List UInt8} (hB : (P.drop off).take n = B) : C1OK Tryz.prog F fCpy (cCp P B off n) :=
 BK' (AE'.nothing F) (fun _ => sB 1000 n) GT' (fun _ => rfl) (fun _ _ => by rw [← hB]; exact aH' hoff hn) fun _ => ⟨rfl, rfl, ⟨rfl, t0⟩, A0' (AM' _ _) A3', ⟨rfl, t0⟩, A0' (AM' _ _) (A0' (CE' _ _) A3')⟩
theorem CW' {P w : List UInt8} {off : Nat} (hw : (P.drop off).take w.length = w) (hoff : off + w.length ≤ P.length) (hl : w.length ≤ 4000000) {z : Nat} (hz : CZ' w = z) : C1OK Tryz.prog F fRHd (cRHd P off w.length z) :=
 BK' (AE'.nothing F) (fun _ => iv (Int.ofNat z)) GT' (fun _ => rfl) (fun _ _ => by rw [← hz]; exact WR' hw hoff hl) fun _ => ⟨rfl, rfl, ⟨rfl, t0⟩, A0' (AM' _ _) A3', ⟨t0, t0⟩, A0' (AM' _ _) A3'⟩
end
def qH2 (P : List UInt8) (M : List ByteArray) (m t : ByteArray) (L : Hds) : LH := match L with
 | [] => oQz P M m t
 | x :: r => oQr P M m t (x :: r)
theorem aR' (P : List UInt8) (M : List ByteArray) (m t : ByteArray) (L : Hds) : AT' 1100 (qH2 P M m t L) = true := by cases L <;> rfl
theorem XH' (P : List UInt8) (M : List ByteArray) (m t : ByteArray) (L : Hds) (p : ByteArray × ByteArray) : qH2 P M m t (L ++ [p]) = oQr P M m t (L ++ [p]) := by cases L <;> rfl
theorem find_z (L : Hds) (hL : L.length ≤ 4000000) (k : ByteArray) : ∃ z, Tri Tryz.prog default fFnd [sP 0 L.length, sv k] [(0, rP L)] (iv z) [(0, rP L)] ∧ ((getP L k = none ∧ z = -1) ∨ ∃ (j : Nat) (v : ByteArray), getP L k = some v ∧ z = Int.ofNat j ∧ j < L.length ∧ L.getD j pr0 = (k, v)) := by
 cases h : getP L k with
 | none => exact ⟨-1, PU' L k hL h, .inl ⟨rfl, rfl⟩⟩
 | some v =>
  obtain ⟨j, h1, h2, h3⟩ := GS' h
  exact ⟨Int.ofNat j, E8' L k hL j h1 (by rw [h2]) h3, .inr ⟨j, v, rfl, rfl, h1, h2⟩⟩
theorem U9' {P : List UInt8} {M : List ByteArray} {q : Nat} (hq : q < M.length) (hqb : q ≤ 100000) (hM : ∀ x ∈ M, x.size ≤ 8192) (m t : ByteArray) (off len n : Nat) (L : Hds) (hL : L.length ≤ 100000) (i : Nat) (hi : i < q) :
  ∃ con hints, (∀ F, AE' default F → ∀ x ∈ con, C1OK Tryz.prog F x.1 x.2) ∧
   ((∃ p, hdrB L (M.getD i nil0) = some p ∧ ∀ F, VAll (fun r os _ => r.2.2 = 156 ∧ r.1 = .normal ∧ ∃ l, FitT kQ iQ r.2.1 os (aQ off len n q (i + 1)) (qH2 P M m t (L ++ [p])) l) (AV' con hints [] default fRNx (A4' fRNx 14) (tms 0 156 (aQ off len n q i)) (qH2 P M m t L) kQ iQ F)) ∨
    (hdrB L (M.getD i nil0) = none ∧ ∀ F, VAll (fun r os _ => r.2.2 = 156 ∧ r.1 = .ret ∧ ∃ l, FitT kQ iQ r.2.1 os xQ [(0, rq00), (4, rB1 P)] l) (AV' con hints [] default fRNx (A4' fRNx 14) (tms 0 156 (aQ off len n q i)) (qH2 P M m t L) kQ iQ F))) := by
 have hwi := AO' i (by omega)
 have e1 := ltTN hi
 have hiM : i < M.length := by omega
 have g1 := aO' M i hiM
 have g2 := rS_lt M i hiM
 have g3 : i.blt q = true := by rw [Nat.blt_eq]; exact hi
 have hs : (M.getD i nil0).size ≤ 8192 := hM _ (N3' hiM)
 generalize M.getD i nil0 = s at *
 obtain ⟨k, v, b, hF, hfr⟩ := WZ' s hs
 have hlaw := VF' L s.data.toList
 rw [HT', hfr] at hlaw
 cases L with
 | nil =>
  cases b with
  | false =>
   have hlaw : hdrB [] s = none := hlaw
   refine ⟨[(fFld, cFd s k v false), (fFnd, NA' k)], hQ s i true false false true, fun F _ => A5' (L5' F hF) (AP' (K4' F k)), .inr ⟨hlaw, fun F => ?_⟩⟩
   refine cv (g4' P M m t s k v off len n q i F) ⟨⟨?_, rfl, rfl, [], by kernel_rfl, by kernel_rfl, ⟨w0, w0, w0, w0, t0⟩, ⟨_, rfl, o0⟩, ⟨_, rfl, AJ' rfl rfl⟩, t0⟩⟩
   simp only [Cnd.holds, g1, g2, g3, sv, AV.strOf, Nat.blt_eq, true_and, and_true]
   and_intros
   all_goals first
    | exact AG' hwi
    | exact A1' e1 | (with_reducible first | exact t0 | exact r0 | exact A6' _ | assumption) | exact r0 | ((repeat (first | exact VW.nil | refine c1 ?_ | refine c2 ?_ | refine c3 ?_)); done)
  | true =>
   have hlaw : hdrB [] s = if k = teB then none else some (k, v) := by
    rw [hlaw]
    simp only [if_true, HT']
    rfl
   by_cases hte : k = teB
   ·rw [if_pos hte] at hlaw
    refine ⟨[(fFld, cFd s k v true), (fFnd, NA' k)], hQ s i false false true true, fun F _ => A5' (L5' F hF) (AP' (K4' F k)), .inr ⟨hlaw, fun F => ?_⟩⟩
    refine cv (g5' P M m t s k v off len n q i F) ⟨⟨?_, rfl, rfl, [], by kernel_rfl, by kernel_rfl, ⟨w0, w0, w0, w0, t0⟩, ⟨_, rfl, o0⟩, ⟨_, rfl, AJ' rfl rfl⟩, t0⟩⟩
    simp only [Cnd.holds, g1, g2, g3, sv, AV.strOf, Nat.blt_eq, true_and, and_true]
    and_intros
    all_goals first
     | exact AG' hwi
     | exact A1' e1
     | exact A1' (by rw [NY']; exact decide_eq_true hte)
     | exact A1' (by decide) | (with_reducible first | exact t0 | exact r0 | exact A6' _ | assumption) | exact r0 | ((repeat (first | exact VW.nil | refine c1 ?_ | refine c2 ?_ | refine c3 ?_)); done)
   ·rw [if_neg hte] at hlaw
    refine ⟨[(fFld, cFd s k v true), (fFnd, NA' k)], hQ s i false false false false, fun F _ => A5' (L5' F hF) (AP' (K4' F k)), .inl ⟨(k, v), hlaw, fun F => ?_⟩⟩
    refine cv (g3' P M m t s k v off len n q i F) ⟨⟨?_, rfl, rfl, [(1000, 1102)], by kernel_rfl, by kernel_rfl, ⟨w0, w0, w0, w0, w0, w0, w0, t0⟩, ⟨_, rfl, o0⟩, ⟨_, rfl, o0⟩, ⟨_, rfl, o0⟩, ⟨_, rfl, IY' rfl rfl⟩, ⟨_, rfl, AJ' rfl rfl⟩, ⟨_, rfl, BQ' rfl rfl⟩, t0⟩⟩
    simp only [Cnd.holds, g1, g2, g3, sv, AV.strOf, Nat.blt_eq, true_and, and_true]
    and_intros
    all_goals first
     | exact AG' hwi
     | exact A1' e1
     | exact A1' (by rw [NY']; exact decide_eq_false hte)
     | exact A1' (by decide) | (with_reducible first | exact t0 | exact r0 | exact A6' _ | assumption) | exact r0 | ((repeat (first | exact VW.nil | refine c1 ?_ | refine c2 ?_ | refine c3 ?_)); done)
 | cons x r =>
  have hq2 : qH2 P M m t (x :: r) = oQr P M m t (x :: r) := rfl
  rw [hq2]
  have hsn := XH' P M m t (x :: r)
  generalize x :: r = L at *
  obtain ⟨z, hz, hzc⟩ := find_z L (by omega) k
  have k1 : (0 + L.length * 2).ble (rowV encP L).length = true := by rw [DC', Nat.ble_eq]; omega
  have k2 : (List.take (L.length * 2) (List.drop 0 (rowV encP L))).length.beq (L.length * 2) = true := by
   rw [List.drop_zero, List.take_of_length_le (by rw [DC']; exact n0), DC']; exact Nat.beq_refl _
  have b1 : ((L.length + 1) * 32).ble 140737488355328 = true := C6' (by omega)
  have b2 : (L.length + 1).ble 9223372036854775807 = true := C6' (by omega)
  cases b with
  | false =>
   have hlaw : hdrB L s = none := hlaw
   refine ⟨[(fFld, cFd s k v false), (fFnd, cFnd L k z)], hQ s i true false false true, fun F _ => A5' (L5' F hF) (AP' (E7' F hz)), .inr ⟨hlaw, fun F => ?_⟩⟩
   refine cv (g8' P M L m t s k v z off len n q i F) ⟨⟨?_, rfl, rfl, [], by kernel_rfl, by kernel_rfl, ⟨w0, w0, w0, w0, t0⟩, ⟨_, rfl, o0⟩, ⟨_, rfl, AJ' rfl rfl⟩, t0⟩⟩
   simp only [Cnd.holds, g1, g2, g3, sv, AV.strOf, Nat.blt_eq, true_and, and_true]
   and_intros
   all_goals first
    | exact AG' hwi
    | exact A1' e1 | (with_reducible first | exact t0 | exact r0 | exact A6' _ | assumption) | exact r0 | ((repeat (first | exact VW.nil | refine c1 ?_ | refine c2 ?_ | refine c3 ?_)); done)
  | true =>
   have hlaw : hdrB L s = if (getP L k).isSome = true then none else if k = teB then none else some (k, v) := by
    rw [hlaw]
    simp only [if_true, HT']
   rcases hzc with ⟨hg, rfl⟩ | ⟨j, v', hg, rfl, hj, _⟩
   ·rw [hg, if_neg (by decide)] at hlaw
    by_cases hte : k = teB
    ·rw [if_pos hte] at hlaw
     refine ⟨[(fFld, cFd s k v true), (fFnd, cFnd L k (-1))], hQ s i false false true true, fun F _ => A5' (L5' F hF) (AP' (E7' F hz)), .inr ⟨hlaw, fun F => ?_⟩⟩
     refine cv (g9' P M L m t s k v (-1) off len n q i F) ⟨⟨?_, rfl, rfl, [], by kernel_rfl, by kernel_rfl, ⟨w0, w0, w0, w0, t0⟩, ⟨_, rfl, o0⟩, ⟨_, rfl, AJ' rfl rfl⟩, t0⟩⟩
     simp only [Cnd.holds, g1, g2, g3, sv, AV.strOf, Nat.blt_eq, true_and, and_true]
     and_intros
     all_goals first
      | exact AG' hwi
      | exact A1' e1
      | exact A1' (by rw [NY']; exact decide_eq_true hte)
      | exact A1' (by decide)
      | (rw [A2']; exact o0) | (with_reducible first | exact t0 | exact r0 | exact A6' _ | assumption) | exact r0 | ((repeat (first | exact VW.nil | refine c1 ?_ | refine c2 ?_ | refine c3 ?_)); done)
    ·rw [if_neg hte] at hlaw
     refine ⟨[(fFld, cFd s k v true), (fFnd, cFnd L k (-1))], hQ s i false false false false, fun F _ => A5' (L5' F hF) (AP' (E7' F hz)), .inl ⟨(k, v), hlaw, fun F => ?_⟩⟩
     have hll : (L ++ [(k, v)]).length = L.length + 1 := by simp
     have hsn2 : qH2 P M m t (L ++ [(k, v)]) = [(0, rq00), (1, rq00), (2, rqO m t (sP 1000 (L.length + 1)) nilB), (3, rS M), (4, rB1 P), (1000, rP (L ++ [(k, v)]))] := by rw [hsn, oQr, hll]
     rw [hsn2]
     refine cv (g7' P M L m t s k v (-1) off len n q i F) ⟨⟨?_, rfl, rfl, [(1000, 1102)], by kernel_rfl, by kernel_rfl, ⟨w0, w0, w0, w0, w0, w0, w0, t0⟩, ⟨_, rfl, o0⟩, ⟨_, rfl, o0⟩, ⟨_, rfl, o0⟩, ⟨_, rfl, IY' rfl rfl⟩, ⟨_, rfl, AJ' rfl rfl⟩, ⟨_, rfl, U8'⟩, t0⟩⟩
     simp only [Cnd.holds, g1, g2, g3, sv, AV.strOf, A2', k1, k2, b1, b2, Nat.blt_eq, true_and, and_true]
     and_intros
     all_goals first
      | exact AG' hwi
      | exact A1' e1
      | exact A1' (by rw [NY']; exact decide_eq_false hte)
      | exact A1' (by decide)
      | (rw [A2']; exact o0) | (with_reducible first | exact t0 | exact r0 | exact A6' _ | assumption) | exact r0 | ((repeat (first | exact VW.nil | refine c1 ?_ | refine c2 ?_ | refine c3 ?_)); done)
   ·rw [hg, if_pos (show (some v').isSome = true from rfl)] at hlaw
    refine ⟨[(fFld, cFd s k v true), (fFnd, cFnd L k (Int.ofNat j))], hQ s i false true false true, fun F _ => A5' (L5' F hF) (AP' (E7' F hz)), .inr ⟨hlaw, fun F => ?_⟩⟩
    refine cv (gA' P M L m t s k v (Int.ofNat j) off len n q i F) ⟨⟨?_, rfl, rfl, [], by kernel_rfl, by kernel_rfl, ⟨w0, w0, w0, w0, t0⟩, ⟨_, rfl, o0⟩, ⟨_, rfl, AJ' rfl rfl⟩, t0⟩⟩
    simp only [Cnd.holds, g1, g2, g3, sv, AV.strOf, Nat.blt_eq, true_and, and_true]
    and_intros
    all_goals first
     | exact AG' hwi
     | exact A1' e1
     | exact A1' (decide_eq_true (by simp only [Z0, Z1, Z2]; omega))
     | (rw [A2']; exact o0) | (with_reducible first | exact t0 | exact r0 | exact A6' _ | assumption) | exact r0 | ((repeat (first | exact VW.nil | refine c1 ?_ | refine c2 ?_ | refine c3 ?_)); done)
section
variable {P : List UInt8} {M ls : List ByteArray} {l0 z0 : ByteArray} (hM : M = (l0 :: ls) ++ [z0]) (hb : ls.length ≤ 10000) (hsz : ∀ x ∈ M, x.size ≤ 8192) (m t : ByteArray) (off len n : Nat)
include hM hb hsz
theorem q_at {i : Nat} (hi : i < ls.length) : M.getD (i + 1) nil0 = ls.getD i nil0 := by
 rw [hM, List.cons_append, List.getD_cons_succ, List.getD_eq_getElem?_getD, List.getD_eq_getElem?_getD, List.getElem?_append_left hi]
theorem Q8' {L : Hds} (h : C7' [] ls = some L) (hne : L ≠ []) : LTri Tryz.prog default (A4' fRNx 14) (tms 0 156 (aQ off len n (ls.length + 1) 1)) (oQz P M m t) (.exit 0) (tms 0 156 (zQ off len n)) (oQ2r P m t L) := by
 have hq : ls.length + 1 < M.length := by rw [hM]; simp
 refine AS' (W := default) (g := fRNx) (b := A4' fRNx 14) (σ := {q : Hds × Nat // q.2 ≤ ls.length ∧ q.1.length = q.2 ∧ C7' q.1 (ls.drop q.2) = some L}) 156 (fun q => aQ off len n (ls.length + 1) (q.1.2 + 1)) (fun q => qH2 P M m t q.1.1) (.exit 0) (zQ off len n) (oQ2r P m t L) (fun q => ls.length - q.1.2) kQ iQ (by intro h; cases h) (fun _ => aR' _ _ _ _ _) rfl ?_ ⟨([], 0), Nat.zero_le _, rfl, h⟩
 rintro ⟨⟨L1, i⟩, hi, hL, hI⟩
 simp only at hi hL hI
 simp only
 by_cases h1 : i < ls.length
 ·obtain ⟨con, hints, hcon, hr⟩ := U9' (P := P) hq (by omega) hsz m t off len n L1 (by omega) (i + 1) (by omega)
  rw [q_at hM hb hsz h1] at hr
  rw [N8' h1] at hI
  rcases hr with ⟨p, hp, hf⟩ | ⟨hp, hf⟩
  ·refine ⟨con, hints, [], hcon, fun _ _ => noL, fun F => VAll.mono (hf F) ?_⟩
   rintro r os m ⟨q1, q2, l, q3⟩
   refine ⟨q1, .inl ⟨q2, ⟨(L1 ++ [p], i + 1), h1, by simp [hL], ?_⟩, by show ls.length - (i + 1) < ls.length - i; omega, l, q3⟩⟩
   unfold C7' at hI
   rw [hp] at hI
   exact hI
  ·exfalso
   unfold C7' at hI
   rw [hp] at hI
   cases hI
 ·have hie : i = ls.length := by omega
  subst hie
  rw [List.drop_length] at hI
  have hI : L1 = L := Option.some.inj hI
  subst hI
  cases L1 with
  | nil => exact absurd rfl hne
  | cons x r =>
   refine ⟨[], AB' [(fRNx, 14, 3, hv (.lit false))], [], fun _ _ => noC, fun _ _ => noL, fun F => ?_⟩
   refine cv (gB' P M (x :: r) m t off len n (ls.length + 1) (ls.length + 1) F) ⟨⟨?_, rfl, .inr ⟨rfl, [(1000, 1000)], by kernel_rfl, by kernel_rfl, ⟨w0, w0, w0, w0, w0, t0⟩, ⟨_, rfl, o0⟩, ⟨_, rfl, o0⟩, ⟨_, rfl, o0⟩, ⟨_, rfl, AJ' rfl rfl⟩, ⟨_, rfl, BQ' rfl rfl⟩, t0⟩⟩⟩
   simp only [Cnd.holds, A2', Nat.blt_eq, true_and, and_true]
   and_intros
   all_goals first
    | exact A1' (ltFN (n0)) | (with_reducible first | exact t0 | exact r0 | exact A6' _ | assumption) | exact r0 | ((repeat (first | exact VW.nil | refine c1 ?_ | refine c2 ?_ | refine c3 ?_)); done)
theorem q_no (h : C7' [] ls = none) : LTri Tryz.prog default (A4' fRNx 14) (tms 0 156 (aQ off len n (ls.length + 1) 1)) (oQz P M m t) .ret (tms 0 156 xQ) [(0, rq00), (4, rB1 P)] := by
 have hq : ls.length + 1 < M.length := by rw [hM]; simp
 refine AS' (W := default) (g := fRNx) (b := A4' fRNx 14) (σ := {q : Hds × Nat // q.2 ≤ ls.length ∧ q.1.length = q.2 ∧ C7' q.1 (ls.drop q.2) = none}) 156 (fun q => aQ off len n (ls.length + 1) (q.1.2 + 1)) (fun q => qH2 P M m t q.1.1) .ret xQ [(0, rq00), (4, rB1 P)] (fun q => ls.length - q.1.2) kQ iQ (by intro h; cases h) (fun _ => aR' _ _ _ _ _) rfl ?_ ⟨([], 0), Nat.zero_le _, rfl, h⟩
 rintro ⟨⟨L1, i⟩, hi, hL, hI⟩
 simp only at hi hL hI
 simp only
 by_cases h1 : i < ls.length
 ·obtain ⟨con, hints, hcon, hr⟩ := U9' (P := P) hq (by omega) hsz m t off len n L1 (by omega) (i + 1) (by omega)
  rw [q_at hM hb hsz h1] at hr
  rw [N8' h1] at hI
  rcases hr with ⟨p, hp, hf⟩ | ⟨hp, hf⟩
  ·refine ⟨con, hints, [], hcon, fun _ _ => noL, fun F => VAll.mono (hf F) ?_⟩
   rintro r os m ⟨q1, q2, l, q3⟩
   refine ⟨q1, .inl ⟨q2, ⟨(L1 ++ [p], i + 1), h1, by simp [hL], ?_⟩, by show ls.length - (i + 1) < ls.length - i; omega, l, q3⟩⟩
   unfold C7' at hI
   rw [hp] at hI
   exact hI
  ·refine ⟨con, hints, [], hcon, fun _ _ => noL, fun F => VAll.mono (hf F) ?_⟩
   rintro r os m ⟨q1, q2, l, q3⟩
   exact ⟨q1, .inr ⟨q2, l, q3⟩⟩
 ·have hie : i = ls.length := by omega
  subst hie
  rw [List.drop_length] at hI
  cases hI
end
theorem q_zero (P : List UInt8) (M : List ByteArray) (m t : ByteArray) (off len n : Nat) : LTri Tryz.prog default (A4' fRNx 14) (tms 0 156 (aQ off len n 1 1)) (oQz P M m t) (.exit 0) (tms 0 156 (zQ off len n)) (oQ2z P m t) := by
 refine AS' (W := default) (g := fRNx) (b := A4' fRNx 14) (σ := Unit) 156 (fun _ => aQ off len n 1 1) (fun _ => oQz P M m t) (.exit 0) (zQ off len n) (oQ2z P m t) (fun _ => 0) kQ iQ (by intro h; cases h) (fun _ => rfl) rfl (fun _ => ?_) ()
 refine ⟨[], AB' [(fRNx, 14, 3, hv (.lit false))], [], fun _ _ => noC, fun _ _ => noL, fun F => ?_⟩
 refine cv (g6' P M m t off len n 1 1 F) ⟨⟨?_, rfl, .inr ⟨rfl, [], by kernel_rfl, by kernel_rfl, ⟨w0, w0, w0, w0, w0, t0⟩, ⟨_, rfl, o0⟩, ⟨_, rfl, o0⟩, ⟨_, rfl, o0⟩, ⟨_, rfl, AJ' rfl rfl⟩, t0⟩⟩⟩
 simp only [Cnd.holds, A2', Nat.blt_eq, true_and, and_true]
 and_intros
 all_goals first
  | exact A1' (ltFN (n0)) | (with_reducible first | exact t0 | exact r0 | exact A6' _ | assumption) | exact r0 | ((repeat (first | exact VW.nil | refine c1 ?_ | refine c2 ?_ | refine c3 ?_)); done)
theorem VR' {x : UInt8} (h : 48 ≤ x.toNat ∧ x.toNat ≤ 57) : IntKind.u8.wrap ((x.toNat : Int) - Int.ofNat 48) = (((UInt8.ofNat (x.toNat - 48)).toNat : Nat) : Int) ∧ (UInt8.ofNat (x.toNat - 48)).toNat = x.toNat - 48 := by
 have := DA' (p := fun x => !decide (48 ≤ x.toNat ∧ x.toNat ≤ 57) || (IntKind.u8.wrap ((x.toNat : Int) - Int.ofNat 48) == (((UInt8.ofNat (x.toNat - 48)).toNat : Nat) : Int) && (UInt8.ofNat (x.toNat - 48)).toNat == x.toNat - 48)) (by decide +kernel) x
 rw [decide_eq_true h, Bool.not_true, Bool.false_or, Bool.and_eq_true] at this
 exact ⟨beq_iff_eq.1 this.1, beq_iff_eq.1 this.2⟩
theorem J2' {n : Nat} (h : n ≤ 1000000000000) : IntKind.i64.wrap (Int.ofNat n) = Int.ofNat n := IntWalk.i64_in _ (by simp only [Z0]; omega)
theorem RS' {i : Nat} (h : i ≤ 10) : 10 ^ i ≤ 10000000000 := Nat.le_trans (Nat.pow_le_pow_right (by decide) h) (by decide)
def WS' (z : Nat) (l : List UInt8) (Z : Nat) : Prop := numR z l = Z
section
variable (P : List UInt8) (L : Hds) (m t v : ByteArray) (off len n : Nat) (hvs : v.size ≤ 1000000)
include hvs
theorem UV' (h : (v.data.toList.take 10).all qD = true) : LTri Tryz.prog default (A4' fRNx 25) (tms 0 156 (aN off len n v 0 0)) (oQ2r P m t L) (.exit 2) (tms 0 156 (zN off len n v (numR 0 (v.data.toList.take 10)))) (oQ2r P m t L) := by
 refine AS' (W := default) (g := fRNx) (b := A4' fRNx 25) (σ := {q : Nat × Nat // q.2 ≤ v.size ∧ q.2 ≤ 10 ∧ q.1 < 10 ^ q.2 ∧ ((v.data.toList.drop q.2).take (10 - q.2)).all qD = true ∧ WS' q.1 ((v.data.toList.drop q.2).take (10 - q.2)) (numR 0 (v.data.toList.take 10))}) 156 (fun q => aN off len n v q.1.1 q.1.2) (fun _ => oQ2r P m t L) (.exit 2) (zN off len n v (numR 0 (v.data.toList.take 10))) (oQ2r P m t L) (fun q => v.size - q.1.2) kQ iN (by intro h; cases h) (fun _ => rfl) rfl ?_ ⟨(0, 0), Nat.zero_le _, Nat.zero_le _, Nat.one_pos, h, rfl⟩
 rintro ⟨⟨z, i⟩, h1, h2, h3, h4, h5⟩
 simp only at h1 h2 h3 h4 h5
 simp only
 have hp := RS' h2
 by_cases hlt : i < v.size
 ·by_cases h10 : i < 10
  ·have hwi := AO' i (by omega)
   obtain ⟨x, hxe⟩ : ∃ x, v.data.toList.getD i 0 = x := ⟨_, rfl⟩
   have hby : Wk (AV.v (.int .u8 (v.data.toList.getD i 0).toNat)) (byv x) := by rw [hxe]; exact w0
   rw [DF' hlt, hxe, show 10 - i = (10 - (i + 1)) + 1 by omega, List.take_succ_cons] at h4 h5
   rw [List.all_cons, Bool.and_eq_true] at h4
   obtain ⟨hq, h4⟩ := h4
   have h5 : WS' (z * 10 + (x.toNat - 48)) ((v.data.toList.drop (i + 1)).take (10 - (i + 1))) (numR 0 (v.data.toList.take 10)) := h5
   have hd := bS' hq
   obtain ⟨s1, s2⟩ := VR' hd
   have hzb : z < 10000000000 := Nat.lt_of_lt_of_le h3 hp
   have hz2 : z * 10 + (x.toNat - 48) < 10 ^ (i + 1) := by
    rw [Nat.pow_succ]
    generalize 10 ^ i = T at h3 ⊢
    omega
   clear h3 hp
   have w1 : IntKind.i64.wrap (Int.ofNat z * Int.ofNat 10) = Int.ofNat (z * 10) := J2' (n := z * 10) (by omega)
   have w2 : IntKind.i64.wrap ((((UInt8.ofNat (x.toNat - 48)).toNat : Nat) : Int)) = Int.ofNat (UInt8.ofNat (x.toNat - 48)).toNat := J2' (n := (UInt8.ofNat (x.toNat - 48)).toNat) (by omega)
   have w3 : IntKind.i64.wrap (Int.ofNat (z * 10) + Int.ofNat (UInt8.ofNat (x.toNat - 48)).toNat) = Int.ofNat (z * 10 + (x.toNat - 48)) := by rw [s2]; exact J2' (n := z * 10 + (x.toNat - 48)) (by omega)
   refine ⟨[(fDgt, cW x true)], hN x (UInt8.ofNat (x.toNat - 48)) z (z * 10 + (x.toNat - 48)) i false, [], fun F hF => AP' (BU' (AE'.nothing F) JU' hq), fun _ _ => noL, fun F => ?_⟩
   refine cv (aU' P L m t v x (UInt8.ofNat (x.toNat - 48)) off len n z (z * 10 + (x.toNat - 48)) i F) ⟨⟨?_, rfl, .inl ⟨rfl, ⟨(z * 10 + (x.toNat - 48), i + 1), hlt, h10, hz2, h4, h5⟩, AR' hlt, [(1000, 1000)], by kernel_rfl, by kernel_rfl, ⟨w0, w0, w0, w0, w0, w0, w0, w0, t0⟩, ⟨_, rfl, o0⟩, ⟨_, rfl, o0⟩, ⟨_, rfl, o0⟩, ⟨_, rfl, AJ' rfl rfl⟩, ⟨_, rfl, BQ' rfl rfl⟩, t0⟩⟩⟩
   simp only [Cnd.holds, A2', Nat.blt_eq, true_and, and_true]
   and_intros
   all_goals first
    | exact AG' hwi
    | exact AG' w1
    | exact AG' w2
    | exact AG' w3
    | exact hlt
    | exact hby
    | exact HB' s1
    | exact A1' (decide_eq_true (by simp only [Z0]; omega)) | (with_reducible first | exact t0 | exact r0 | exact A6' _ | assumption) | exact r0 | ((repeat (first | exact VW.nil | refine c1 ?_ | refine c2 ?_ | refine c3 ?_)); done)
  ·have hie : i = 10 := by omega
   subst hie
   have h5 : z = numR 0 (v.data.toList.take 10) := h5
   rw [← h5]
   clear h5
   refine ⟨[], AB' [(fRNx, 25, 3, hv (.lit true)), (fRNx, 25, 6, hv (.lit false))], [], fun F hF => noC, fun _ _ => noL, fun F => ?_⟩
   refine cv (oNT_eq P L m t v off len n z 10 F) ⟨⟨?_, rfl, .inr ⟨rfl, [(1000, 1000)], by kernel_rfl, by kernel_rfl, ⟨w0, w0, w0, w0, w0, w0, w0, t0⟩, ⟨_, rfl, o0⟩, ⟨_, rfl, o0⟩, ⟨_, rfl, o0⟩, ⟨_, rfl, AJ' rfl rfl⟩, ⟨_, rfl, BQ' rfl rfl⟩, t0⟩⟩⟩
   simp only [Cnd.holds, A2', Nat.blt_eq, true_and, and_true]
   and_intros
   all_goals first
    | exact A1' (decide_eq_true (by simp only [Z0]; omega))
    | exact A1' (decide_eq_false (by simp only [Z0]; omega)) | (with_reducible first | exact t0 | exact r0 | exact A6' _ | assumption) | exact r0 | ((repeat (first | exact VW.nil | refine c1 ?_ | refine c2 ?_ | refine c3 ?_)); done)
 ·have hie : i = v.size := by omega
  rw [DQ' (by omega), List.take_nil] at h5
  have h5 : z = numR 0 (v.data.toList.take 10) := h5
  rw [← h5]
  clear h5
  refine ⟨[], AB' [(fRNx, 25, 3, hv (.lit false))], [], fun F hF => noC, fun _ _ => noL, fun F => ?_⟩
  refine cv (oNE_eq P L m t v off len n z i F) ⟨⟨?_, rfl, .inr ⟨rfl, [(1000, 1000)], by kernel_rfl, by kernel_rfl, ⟨w0, w0, w0, w0, w0, w0, w0, t0⟩, ⟨_, rfl, o0⟩, ⟨_, rfl, o0⟩, ⟨_, rfl, o0⟩, ⟨_, rfl, AJ' rfl rfl⟩, ⟨_, rfl, BQ' rfl rfl⟩, t0⟩⟩⟩
  simp only [Cnd.holds, A2', Nat.blt_eq, true_and, and_true]
  and_intros
  all_goals first
   | exact A1' (decide_eq_false (by simp only [Z0]; omega)) | (with_reducible first | exact t0 | exact r0 | exact A6' _ | assumption) | exact r0 | ((repeat (first | exact VW.nil | refine c1 ?_ | refine c2 ?_ | refine c3 ?_)); done)
theorem n_no (h : (v.data.toList.take 10).all qD = false) : LTri Tryz.prog default (A4' fRNx 25) (tms 0 156 (aN off len n v 0 0)) (oQ2r P m t L) .ret (tms 0 156 xQ) [(0, rq00), (4, rB1 P)] := by
 refine AS' (W := default) (g := fRNx) (b := A4' fRNx 25) (σ := {q : Nat × Nat // q.2 ≤ v.size ∧ q.2 ≤ 10 ∧ q.1 < 10 ^ q.2 ∧ ((v.data.toList.drop q.2).take (10 - q.2)).all qD = false}) 156 (fun q => aN off len n v q.1.1 q.1.2) (fun _ => oQ2r P m t L) .ret xQ [(0, rq00), (4, rB1 P)] (fun q => v.size - q.1.2) kQ iN (by intro h; cases h) (fun _ => rfl) rfl ?_ ⟨(0, 0), Nat.zero_le _, Nat.zero_le _, Nat.one_pos, h⟩
 rintro ⟨⟨z, i⟩, h1, h2, h3, h4⟩
 simp only at h1 h2 h3 h4
 simp only
 have hp := RS' h2
 by_cases hlt : i < v.size
 ·by_cases h10 : i < 10
  ·have hwi := AO' i (by omega)
   obtain ⟨x, hxe⟩ : ∃ x, v.data.toList.getD i 0 = x := ⟨_, rfl⟩
   have hby : Wk (AV.v (.int .u8 (v.data.toList.getD i 0).toNat)) (byv x) := by rw [hxe]; exact w0
   rw [DF' hlt, hxe, show 10 - i = (10 - (i + 1)) + 1 by omega, List.take_succ_cons, List.all_cons] at h4
   by_cases hq : qD x = true
   ·rw [hq, Bool.true_and] at h4
    have hd := bS' hq
    obtain ⟨s1, s2⟩ := VR' hd
    have hzb : z < 10000000000 := Nat.lt_of_lt_of_le h3 hp
    have hz2 : z * 10 + (x.toNat - 48) < 10 ^ (i + 1) := by
     rw [Nat.pow_succ]
     generalize 10 ^ i = T at h3 ⊢
     omega
    clear h3 hp
    have w1 : IntKind.i64.wrap (Int.ofNat z * Int.ofNat 10) = Int.ofNat (z * 10) := J2' (n := z * 10) (by omega)
    have w2 : IntKind.i64.wrap ((((UInt8.ofNat (x.toNat - 48)).toNat : Nat) : Int)) = Int.ofNat (UInt8.ofNat (x.toNat - 48)).toNat := J2' (n := (UInt8.ofNat (x.toNat - 48)).toNat) (by omega)
    have w3 : IntKind.i64.wrap (Int.ofNat (z * 10) + Int.ofNat (UInt8.ofNat (x.toNat - 48)).toNat) = Int.ofNat (z * 10 + (x.toNat - 48)) := by rw [s2]; exact J2' (n := z * 10 + (x.toNat - 48)) (by omega)
    refine ⟨[(fDgt, cW x true)], hN x (UInt8.ofNat (x.toNat - 48)) z (z * 10 + (x.toNat - 48)) i false, [], fun F hF => AP' (BU' (AE'.nothing F) JU' hq), fun _ _ => noL, fun F => ?_⟩
    refine cv (aU' P L m t v x (UInt8.ofNat (x.toNat - 48)) off len n z (z * 10 + (x.toNat - 48)) i F) ⟨⟨?_, rfl, .inl ⟨rfl, ⟨(z * 10 + (x.toNat - 48), i + 1), hlt, h10, hz2, h4⟩, AR' hlt, [(1000, 1000)], by kernel_rfl, by kernel_rfl, ⟨w0, w0, w0, w0, w0, w0, w0, w0, t0⟩, ⟨_, rfl, o0⟩, ⟨_, rfl, o0⟩, ⟨_, rfl, o0⟩, ⟨_, rfl, AJ' rfl rfl⟩, ⟨_, rfl, BQ' rfl rfl⟩, t0⟩⟩⟩
    simp only [Cnd.holds, A2', Nat.blt_eq, true_and, and_true]
    and_intros
    all_goals first
     | exact AG' hwi
     | exact AG' w1
     | exact AG' w2
     | exact AG' w3
     | exact hlt
     | exact hby
     | exact HB' s1
     | exact A1' (decide_eq_true (by simp only [Z0]; omega)) | (with_reducible first | exact t0 | exact r0 | exact A6' _ | assumption) | exact r0 | ((repeat (first | exact VW.nil | refine c1 ?_ | refine c2 ?_ | refine c3 ?_)); done)
   ·refine ⟨[(fDgt, cW x false)], hN x x z z i true, [], fun F hF => AP' (BU' (AE'.nothing F) JU' (eq_false_of_ne_true hq)), fun _ _ => noL, fun F => ?_⟩
    refine cv (oNX_eq P L m t v x x off len n z z i F) ⟨⟨?_, rfl, .inr ⟨rfl, [], by kernel_rfl, by kernel_rfl, ⟨w0, w0, w0, w0, t0⟩, ⟨_, rfl, o0⟩, ⟨_, rfl, AJ' rfl rfl⟩, t0⟩⟩⟩
    simp only [Cnd.holds, A2', Nat.blt_eq, true_and, and_true]
    and_intros
    all_goals first
     | exact hlt
     | exact hby
     | exact A1' (decide_eq_true (by simp only [Z0]; omega)) | (with_reducible first | exact t0 | exact r0 | exact A6' _ | assumption) | exact r0 | ((repeat (first | exact VW.nil | refine c1 ?_ | refine c2 ?_ | refine c3 ?_)); done)
  ·rw [show 10 - i = 0 by omega, List.take_zero] at h4
   cases h4
 ·rw [DQ' (by omega), List.take_nil] at h4
  cases h4
end
end Go.Proofs.YtpijbbobejeemaaGreatDoor.Htp
