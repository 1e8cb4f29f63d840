/- Parts of the proof, merged. -/
import Derived.Test.YtpijbbobejeemaaGreatDoorPrs4
set_option linter.unusedVariables false
set_option linter.unusedSimpArgs false
set_option maxRecDepth 100000
set_option linter.unusedSectionVars false
namespace Go.Proofs.YtpijbbobejeemaaGreatDoor.Htp
open Go Go.RowKit Eng Kit
noncomputable section
abbrev AK' : Nat := 11
abbrev GC' : Nat := 31
def gP1 : List AV → AP Nat := fun args => match args with
 | [.ptr a _] => .ret a
 | _ => .fail "parser"
def gP2 : List AV → AP Nat := fun args => match args with
 | [_, .ptr a _] => .ret a
 | _ => .fail "request"
def gPr : List AV → AP (Nat × Nat) := fun args => match args with
 | [.ptr a _] => .read a fun o => match o with
  | .cells [.slice b _ _ _ _] _ => .ret (a, b)
  | _ => .fail "parser's octets"
 | _ => .fail "parser"
def gHr : List AV → AP (Nat × Nat) := fun args => match args with
 | [_, .ptr a _] => .read a fun o => match o with
  | .cells [_, _, .slice b _ _ _ _, _] _ => .ret (a, b)
  | _ => .fail "request's headers"
 | _ => .fail "request"
def gLr : List AV → AP Nat := fun args => match args with
 | [.agg [_, _, .slice a _ _ _ _, _]] => .ret a
 | _ => .fail "length"
def nm01 (p : Nat × Nat) : Nat → Nat := fun k => match Nat.beq k 0 with
 | true => p.1
 | false => match Nat.beq k 1 with
  | true => p.2
  | false => k
def nm0k (p : Nat × Nat) : Nat → Nat := fun k => match Nat.beq k 0 with
 | true => p.1
 | false => match Nat.beq k 1000 with
  | true => p.2
  | false => k
def PA' (L : List UInt8) (off n : Nat) (z : Int) : List AV → Option (AP AV) := mkC gPr (fun _ => True) nm01 (fun _ => [.ptr 0 0]) (fun _ => [(0, pO 1 off n), (1, rB1 L)]) (fun _ => .leaf .ret [iv z] [(0, pO 1 off n), (1, rB1 L)])
def VY' : List AV → Option (AP AV) := mkC gP1 (fun _ => True) nm0 (fun _ => [.ptr 0 0]) (fun _ => [(0, pZ)]) (fun _ => .leaf .ret [iv 3] [(0, pZ)])
def hY' (s m t : ByteArray) (b : Bool) : List AV → Option (AP AV) := mkC gP2 (fun _ => True) nm0 (fun _ => [sv s, .ptr 0 0]) (fun _ => [(0, rqO nil0 nil0 nilP nilB)]) (fun _ => .leaf .ret [bv b] [(0, rqO m t nilP nilB)])
def cHdZ (m t s k v : ByteArray) : List AV → Option (AP AV) := mkC gP2 (fun _ => True) nm0 (fun _ => [sv s, .ptr 0 0]) (fun _ => [(0, rqO m t nilP nilB)]) (fun _ => .leaf .ret [bv true] [(0, rqO m t (sP 1000 1) nilB), (1000, rP [(k, v)])])
def i0' (m t s : ByteArray) : List AV → Option (AP AV) := mkC gP2 (fun _ => True) nm0 (fun _ => [sv s, .ptr 0 0]) (fun _ => [(0, rqO m t nilP nilB)]) (fun _ => .leaf .ret [bv false] [(0, rqO m t nilP nilB)])
def cHdR (L L' : Hds) (m t s : ByteArray) (b : Bool) : List AV → Option (AP AV) := mkC gHr (fun _ => True) nm0k (fun _ => [sv s, .ptr 0 0]) (fun _ => [(0, rqO m t (sP 1000 L.length) nilB), (1000, rP L)]) (fun _ => .leaf .ret [bv b] [(0, rqO m t (sP 1000 L'.length) nilB), (1000, rP L')])
def cLen (L : Hds) (m t : ByteArray) (z : Int) (b : Bool) : List AV → Option (AP AV) := mkC gLr (fun _ => True) nm0 (fun _ => [rqV m t (sP 0 L.length) nilB]) (fun _ => [(0, rP L)]) (fun _ => .leaf .ret [.tuple [iv z, bv b]] [(0, rP L)])
def hZ' (m t : ByteArray) : List AV → Option (AP AV) := mkC (fun _ => .ret ()) (fun _ => True) (fun _ k => k) (fun _ => [rqV m t nilP nilB]) (fun _ => []) (fun _ => .leaf .ret [.tuple [iv (Int.ofNat 0), bv true]] [])
def aNl (n k i : Nat) : List (Nat × AV) := [(0, .ptr 2 0), (2, .ptr 0 0), (5, iv (Int.ofNat n)), (55, .slice 1 1 k 1 (.lo k)), (56, iv (Int.ofNat k)), (57, iv (Int.ofNat i))]
def kNl : List Nat := [0, 1, 2, 3, 1000, 1100, 1101]
def iNl : List Nat := [0, 2, 3, 4, 5, 55, 56, 57]
def hNl (s : ByteArray) (i : Nat) (b : Bool) : B4' := AB' [(AK', 11, 0, hv (.lit true)), (AK', 12, 1, hv (sv s)), (AK', 13, 2, hv (.lit b)), (AK', 15, 0, hv (iv (Int.ofNat (i + 1))))]
noncomputable section
abbrev k56' (q0 : Nat) (q1 : List ByteArray) (q2 : ByteArray) : Cnd := ((p' ((1 + q0 * 1).blt (rowV encS q1).length = true)).a ((p' ((rowV encS q1).getD (1 + q0 * 1) (u') = AV.v (Value.string ((rowV encS q1).getD (1 + q0 * 1) (u')).strOf))).a (f' (Wk (AV.v (Value.string ((rowV encS q1).getD (1 + q0 * 1) (u')).strOf)) (s' q2)))))
abbrev k57' (q0 q1 q2 : ByteArray) : Cnd := ((p' True).a ((p' (VW [s' q0,AV.ptr 0 0] [s' q0,AV.ptr 0 0])).a (f' (OW (AO.cells [s' q1,s' q2,e',e'] 64) (AO.cells [s' q1,s' q2,e',e'] 64)))))
end
theorem e8' (W : World) (P : List UInt8) (off len : Nat) (M : List ByteArray) (m t s k v : ByteArray) (n r i : Nat) (F : HP) : AV' [(fHdr, cHdZ m t s k v)] (hNl s i false) [] W AK' (A4' AK' 11) (tms 0 113 (aNl n r i)) [(0, rqO m t nilP nilB), (1, rS M), (2, pO 3 off len), (3, rB1 P)] kNl iNl F = VT.leaf (AX.normal,[AV.ptr 2 0,AV.ptr 0 0,a',a',i' n,AV.slice 1 1 r 1 (Cp.lo r),i' r,i' (i + 1)],113) [some (AO.cells [s' m,s' t,AV.slice 1100 0 1 2 (Cp.lo 1),e'] 64),some (AO.cells (rowV encS M) 18),some (AO.cells [AV.slice 3 off len 1 (Cp.lo len)] 122),some (AO.cells (rowV encB P) 11),none,some (AO.cells [s' k,s' v] 78),none] 1101 ((k1' i r).a ((k2' i r).a ((k56' i M s).a ((k57' s m t).a (k18'.a ((k6' i).a t')))))) := by kernel_rfl
theorem XT' (W : World) (P : List UInt8) (off len : Nat) (M : List ByteArray) (m t s : ByteArray) (n r i : Nat) (F : HP) : AV' [(fHdr, i0' m t s)] (hNl s i true) [] W AK' (A4' AK' 11) (tms 0 113 (aNl n r i)) [(0, rqO m t nilP nilB), (1, rS M), (2, pO 3 off len), (3, rB1 P)] kNl iNl F = VT.leaf (AX.ret,[AV.ptr 2 0,AV.ptr 0 0,b' false,i' 400,i' n,AV.slice 1 1 r 1 (Cp.lo r),i' r,i' i],113) [some (AO.cells [s' y0',s' y0',e',e'] 64),some (AO.cells (rowV encS M) 18),some (AO.cells [AV.slice 3 off len 1 (Cp.lo len)] 122),some (AO.cells (rowV encB P) 11),none,none,none] 1100 ((k1' i r).a ((k2' i r).a ((k56' i M s).a ((k57' s m t).a (k36'.a (k12'.a t')))))) := by kernel_rfl
theorem XU' (W : World) (P : List UInt8) (off len : Nat) (M : List ByteArray) (m t : ByteArray) (n r : Nat) (F : HP) : AV' [] (AB' [(AK', 11, 0, hv (.lit false))]) [] W AK' (A4' AK' 11) (tms 0 113 (aNl n r r)) [(0, rqO m t nilP nilB), (1, rS M), (2, pO 3 off len), (3, rB1 P)] kNl iNl F = VT.leaf (AX.exit 1,[AV.ptr 2 0,AV.ptr 0 0,a',a',i' n,AV.slice 1 1 r 1 (Cp.lo r),i' r,i' r],113) [some (AO.cells [s' m,s' t,e',e'] 64),some (AO.cells (rowV encS M) 18),some (AO.cells [AV.slice 3 off len 1 (Cp.lo len)] 122),some (AO.cells (rowV encB P) 11),none,none,none] 1100 ((k14' r).a t') := by kernel_rfl
noncomputable section
abbrev k58' (q0 q1 q2 : ByteArray) (q3 : Nat) (q4 : Hds) : Cnd := ((p' True).a ((p' (VW [s' q0,AV.ptr 0 0] [s' q0,AV.ptr 0 0])).a ((p' (OW (AO.cells [s' q1,s' q2,AV.slice q3 0 (List.length q4) 2 (Cp.lo (List.length q4)),e'] 64) (AO.cells [s' q1,s' q2,AV.slice q3 0 (List.length q4) 2 (Cp.lo (List.length q4)),e'] 64))).a (f' (OW (AO.cells (rowV encP q4) 78) (AO.cells (AV.rens (nm0k (0,q3)) (rowV encP q4)) 78))))))
end
theorem e9' (W : World) (P : List UInt8) (off len : Nat) (M : List ByteArray) (L L' : Hds) (m t s : ByteArray) (n r i : Nat) (F : HP) : AV' [(fHdr, cHdR L L' m t s true)] (hNl s i false) [] W AK' (A4' AK' 11) (tms 0 113 (aNl n r i)) [(0, rqO m t (sP 1000 L.length) nilB), (1, rS M), (2, pO 3 off len), (3, rB1 P), (1000, rP L)] kNl iNl F = VT.leaf (AX.normal,[AV.ptr 2 0,AV.ptr 0 0,a',a',i' n,AV.slice 1 1 r 1 (Cp.lo r),i' r,i' (i + 1)],113) [some (AO.cells [s' m,s' t,AV.slice 1100 0 (List.length L') 2 (Cp.lo (List.length L')),e'] 64),some (AO.cells (rowV encS M) 18),some (AO.cells [AV.slice 3 off len 1 (Cp.lo len)] 122),some (AO.cells (rowV encB P) 11),none,some (AO.cells (AV.rens (sgN (nm0k (0,1000)) [1000] 1100) (rowV encP L')) 78),none] 1101 ((k1' i r).a ((k2' i r).a ((k56' i M s).a ((k58' s m t 1000 L).a (k18'.a ((k6' i).a t')))))) := by kernel_rfl
theorem XV' (W : World) (P : List UInt8) (off len : Nat) (M : List ByteArray) (L : Hds) (m t s : ByteArray) (n r i : Nat) (F : HP) : AV' [(fHdr, cHdR L L m t s false)] (hNl s i true) [] W AK' (A4' AK' 11) (tms 0 113 (aNl n r i)) [(0, rqO m t (sP 1000 L.length) nilB), (1, rS M), (2, pO 3 off len), (3, rB1 P), (1000, rP L)] kNl iNl F = VT.leaf (AX.ret,[AV.ptr 2 0,AV.ptr 0 0,b' false,i' 400,i' n,AV.slice 1 1 r 1 (Cp.lo r),i' r,i' i],113) [some (AO.cells [s' y0',s' y0',e',e'] 64),some (AO.cells (rowV encS M) 18),some (AO.cells [AV.slice 3 off len 1 (Cp.lo len)] 122),some (AO.cells (rowV encB P) 11),none,some (AO.cells (AV.rens (sgN (nm0k (0,1000)) [1000] 1100) (rowV encP L)) 78),none] 1101 ((k1' i r).a ((k2' i r).a ((k56' i M s).a ((k58' s m t 1000 L).a (k36'.a (k12'.a t')))))) := by kernel_rfl
theorem XW' (W : World) (P : List UInt8) (off len : Nat) (M : List ByteArray) (L : Hds) (m t : ByteArray) (n r : Nat) (F : HP) : AV' [] (AB' [(AK', 11, 0, hv (.lit false))]) [] W AK' (A4' AK' 11) (tms 0 113 (aNl n r r)) [(0, rqO m t (sP 1000 L.length) nilB), (1, rS M), (2, pO 3 off len), (3, rB1 P), (1000, rP L)] kNl iNl F = VT.leaf (AX.exit 1,[AV.ptr 2 0,AV.ptr 0 0,a',a',i' n,AV.slice 1 1 r 1 (Cp.lo r),i' r,i' r],113) [some (AO.cells [s' m,s' t,AV.slice 1000 0 (List.length L) 2 (Cp.lo (List.length L)),e'] 64),some (AO.cells (rowV encS M) 18),some (AO.cells [AV.slice 3 off len 1 (Cp.lo len)] 122),some (AO.cells (rowV encB P) 11),some (AO.cells (rowV encP L) 78),none,none] 1100 ((k14' r).a t') := by kernel_rfl
def gNl : List AV → AP ((Nat × Nat) × (Nat × Nat)) := fun tmps => match getL tmps 0, getL tmps 2, getL tmps 55 with
 | .ptr p _, .ptr a _, .slice b _ _ _ _ => .read p fun o => match o with
  | .cells [.slice q _ _ _ _] _ => .ret ((a, b), (p, q))
  | _ => .fail "parser's octets"
 | _, _, _ => .fail "lines"
def nmNl (p : (Nat × Nat) × (Nat × Nat)) : Nat → Nat := fun k => match Nat.beq k 2 with
 | true => p.2.1
 | false => match Nat.beq k 3 with
  | true => p.2.2
  | false => nm01 p.1 k
def lNl (P : List UInt8) (off len : Nat) (M : List ByteArray) (m t : ByteArray) (n r : Nat) (L : Hds) : List AV → AP (AX × List AV) := mkL gNl (fun _ => True) nmNl (fun _ => tms 0 113 (aNl n r 0)) (fun _ => [(0, rqO m t nilP nilB), (1, rS M), (2, pO 3 off len), (3, rB1 P)]) (fun _ => .leaf (.exit 1) (tms 0 113 [(0, .ptr 2 0), (2, .ptr 0 0), (5, iv (Int.ofNat n))]) [(0, rqO m t (sP 1000 L.length) nilB), (2, pO 3 off len), (3, rB1 P), (1000, rP L)])
def lNlZ (P : List UInt8) (off len : Nat) (M : List ByteArray) (m t : ByteArray) (n r : Nat) : List AV → AP (AX × List AV) := mkL gNl (fun _ => True) nmNl (fun _ => tms 0 113 (aNl n r 0)) (fun _ => [(0, rqO m t nilP nilB), (1, rS M), (2, pO 3 off len), (3, rB1 P)]) (fun _ => .leaf (.exit 1) (tms 0 113 [(0, .ptr 2 0), (2, .ptr 0 0), (5, iv (Int.ofNat n))]) [(0, rqO m t nilP nilB), (2, pO 3 off len), (3, rB1 P)])
def lNlX (P : List UInt8) (off len : Nat) (M : List ByteArray) (m t : ByteArray) (n r : Nat) : List AV → AP (AX × List AV) := mkL gNl (fun _ => True) nmNl (fun _ => tms 0 113 (aNl n r 0)) (fun _ => [(0, rqO m t nilP nilB), (1, rS M), (2, pO 3 off len), (3, rB1 P)]) (fun _ => .leaf .ret (tms 0 113 [(2, .ptr 0 0), (3, bv false), (4, iv (Int.ofNat 400))]) [(0, rqO nil0 nil0 nilP nilB), (2, pO 3 off len), (3, rB1 P)])
def hxA (c1 c2 c3 c4 : Bool) : List (Nat × Nat × Nat × Hint) := [(AK', 2, 1, hv (.lit c1)), (AK', 2, 4, hv (.lit c2)), (AK', 2, 12, hv (.lit c3)), (AK', 3, 1, hv (.lit c4)), (AK', 5, 1, hv (.lit c1)), (AK', 5, 4, hv (.lit c2))]
def hxB (s1 s2 l0 : ByteArray) (M : List ByteArray) (r : Nat) (b : Bool) : List (Nat × Nat × Nat × Hint) := [(AK', 7, 6, ht s1), (AK', 7, 7, hv (sv s2)), (AK', 7, 8, hvo (sB 1101 (r + 1)) 1101 (rS M)), (AK', 8, 2, hv (sv l0)), (AK', 8, 4, hv (.lit b)), (AK', 10, 1, hv (.slice 1101 1 r 1 (.lo r))), (AK', 10, 2, hv (iv (Int.ofNat r)))]
def hxC (n sz : Nat) (b1 b2 b3 : Bool) : List (Nat × Nat × Nat × Hint) := [(AK', 17, 1, hv (.lit b1)), (AK', 19, 1, hv (.lit b2)), (AK', 21, 8, hv (.lit b3)), (AK', 23, 7, hv (iv (Int.ofNat (n + sz)))), (AK', 24, 7, hv (iv (Int.ofNat (n + sz))))]
def kNx : List Nat := [0, 1002, 1100, 1101, 1102, 1103, 1104]
noncomputable section
abbrev k59' : Cnd := ((p' (true = true)).a (f' ([s' y0',s' y0',e',e'] = [s' y0',s' y0',e',e'])))
abbrev k60' : Cnd := (p' (true = true))
abbrev k61' : Cnd := (p' ([s' y0',s' y0',e',e'] = [s' y0',s' y0',e',e']))
end
theorem e7' (F : HP) : wRun [(DE', VY')] (AB' (hxA true true false false)) [] default AK' [.ptr 0 0] [(0, pZ)] kNx F = VT.leaf (AV.tuple [AV.agg [s' y0',s' y0',e',e'],b' false,i' 0]) [some (AO.cells [e'] 122),none,some (AO.cells [s' y0',s' y0',e',e'] 64),none,none,none,none] 1101 (((Cnd.p True).a ((p' (VW [AV.ptr 0 0] [AV.ptr 0 0])).a (f' (OW (AO.cells [e'] 122) (AO.cells [e'] 122))))).a (k36'.a (k36'.a (k12'.a (k18'.a (k18'.a (k36'.a (k36'.a (k59'.a (k12'.a (k60'.a (k61'.a t')))))))))))) := by kernel_rfl
noncomputable section
abbrev k62' (q0 q1 q2 : Nat) (q3 : List UInt8) : Cnd := ((p' True).a ((p' (VW [AV.ptr 0 0] [AV.ptr 0 0])).a ((p' (OW (AO.cells [AV.slice q0 q1 q2 1 (Cp.lo q2)] 122) (AO.cells [AV.slice q0 q1 q2 1 (Cp.lo q2)] 122))).a (f' (OW (AO.cells (rowV encB q3) 11) (AO.cells (AV.rens (nm01 (0,q0)) (rowV encB q3)) 11))))))
abbrev k63' (q0 : Nat) : Cnd := (f' (Wk (b' (decide (↑q0 > Int.ofNat 8192))) j'))
end
theorem e6' (W : World) (P : List UInt8) (off len : Nat) (F : HP) : wRun [(DE', PA' P off len 3)] (AB' (hxA true true true false)) [] W AK' [.ptr 0 0] [(0, pO 1002 off len), (1002, rB1 P)] kNx F = VT.leaf (AV.tuple [AV.agg [s' y0',s' y0',e',e'],b' false,i' 413]) [some (AO.cells [AV.slice 1002 off len 1 (Cp.lo len)] 122),some (AO.cells (AV.rens (sgN (nm01 (0,1002)) [] 0) (rowV encB P)) 11),some (AO.cells [s' y0',s' y0',e',e'] 64),none,none,none,none] 1101 ((k62' 1002 off len P).a (k36'.a (k36'.a (k12'.a ((k63' len).a (k59'.a (k12'.a (k60'.a (k61'.a t'))))))))) := by kernel_rfl
noncomputable section
abbrev k64' (q0 : Nat) : Cnd := (f' (Wk (b' (decide (↑q0 > Int.ofNat 8192))) g'))
end
theorem e5' (W : World) (P : List UInt8) (off len : Nat) (F : HP) : wRun [(DE', PA' P off len 3)] (AB' (hxA true true false false)) [] W AK' [.ptr 0 0] [(0, pO 1002 off len), (1002, rB1 P)] kNx F = VT.leaf (AV.tuple [AV.agg [s' y0',s' y0',e',e'],b' false,i' 0]) [some (AO.cells [AV.slice 1002 off len 1 (Cp.lo len)] 122),some (AO.cells (AV.rens (sgN (nm01 (0,1002)) [] 0) (rowV encB P)) 11),some (AO.cells [s' y0',s' y0',e',e'] 64),none,none,none,none] 1101 ((k62' 1002 off len P).a (k36'.a (k36'.a (k12'.a ((k64' len).a (k18'.a (k36'.a (k36'.a (k59'.a (k12'.a (k60'.a (k61'.a t')))))))))))) := by kernel_rfl
noncomputable section
abbrev k65' (q0 : Nat) : Cnd := (f' (Wk (b' (decide (Int.ofNat q0 < Int.ofNat 4))) g'))
abbrev k66' (q0 : Nat) : Cnd := (f' (Wk (b' (decide (Int.ofNat q0 > Int.ofNat 8192))) j'))
end
theorem e4' (W : World) (P : List UInt8) (off len n : Nat) (F : HP) : wRun [(DE', PA' P off len (Int.ofNat n))] (AB' (hxA false false false true)) [] W AK' [.ptr 0 0] [(0, pO 1002 off len), (1002, rB1 P)] kNx F = VT.leaf (AV.tuple [AV.agg [s' y0',s' y0',e',e'],b' false,i' 413]) [some (AO.cells [AV.slice 1002 off len 1 (Cp.lo len)] 122),some (AO.cells (AV.rens (sgN (nm01 (0,1002)) [] 0) (rowV encB P)) 11),some (AO.cells [s' y0',s' y0',e',e'] 64),none,none,none,none] 1101 ((k62' 1002 off len P).a ((k65' n).a ((k66' n).a (k59'.a (k12'.a (k60'.a (k61'.a t'))))))) := by kernel_rfl
def cA (P : List UInt8) (off len n : Nat) (l0 m t : ByteArray) (b : Bool) : LR' := [(DE', PA' P off len (Int.ofNat n)), (fTSuf, cTSuf), (VG', hK'), (CU', hY' l0 m t b)]
noncomputable section
abbrev y8' : ByteArray := ByteArray.mk (Array.mk [13, 10, 13, 10])
abbrev y9' : ByteArray := ByteArray.mk (Array.mk [13, 10])
abbrev k67' (q0 : Nat) : Cnd := (f' (Wk (b' (decide (Int.ofNat q0 > Int.ofNat 8192))) g'))
abbrev k68' (q0 q1 : Nat) : Cnd := ((p' (true = true)).a ((p' (q0.ble q1 = true)).a (f' (q1.ble q1 = true))))
abbrev k69' (q0 q1 q2 : Nat) (q3 : List UInt8) (q4 : ByteArray) : Cnd := (f' (q0 + q1 ≤ (AV.rens (sgN (nm01 (0,q2)) [] 0) (rowV encB q3)).length ∧ List.take q1 (List.drop q0 (AV.rens (sgN (nm01 (0,q2)) [] 0) (rowV encB q3))) = vmap (List.map (fun b => Value.int IntKind.u8 ↑b.toNat) q4.data.toList)))
abbrev k70' (q0 q1 : ByteArray) : Cnd := ((p' (q0.size ≤ 9223372036854775807)).a (f' (Wk (s' (sufB q0 y8')) (s' q1))))
abbrev k71' (q0 : ByteArray) (q1 : List ByteArray) (q2 q3 : Nat) : Cnd := ((p' (1 ≤ 2 ∧ q0.size < 4294967281)).a ((p' (OW (AO.cells (vmap (List.map Value.string (splB q0 y9'))) 18) (AO.cells (rowV encS q1) 18))).a (f' (Wk (AV.slice q2 0 (List.map Value.string (splB q0 y9')).length 1 (Cp.lo (List.map Value.string (splB q0 y9')).length)) (AV.slice q2 0 (q3 + 1) 1 (Cp.lo (q3 + 1)))))))
abbrev k72' (q0 : List ByteArray) (q1 : ByteArray) : Cnd := ((p' (Nat.blt 0 (rowV encS q0).length = true)).a ((p' ((rowV encS q0).getD 0 (u') = AV.v (Value.string ((rowV encS q0).getD 0 (u')).strOf))).a (f' (Wk (AV.v (Value.string ((rowV encS q0).getD 0 (u')).strOf)) (s' q1)))))
abbrev k73' (q0 : ByteArray) (q1 : Nat) : Cnd := ((p' True).a ((p' (VW [s' q0,AV.ptr q1 0] [s' q0,AV.ptr q1 0])).a (f' (OW (AO.cells [s' y0',s' y0',e',e'] 64) (AO.cells [s' nil0,s' nil0,e',e'] 64)))))
end
theorem e3' (W : World) (P : List UInt8) (s1 s2 l0 : ByteArray) (M : List ByteArray) (off len n r : Nat) (F : HP) : wRun (cA P off len n l0 nil0 nil0 false) (AB' (hxA false false false false ++ hxB s1 s2 l0 M r true)) [] W AK' [.ptr 0 0] [(0, pO 1002 off len), (1002, rB1 P)] kNx F = VT.leaf (AV.tuple [AV.agg [s' y0',s' y0',e',e'],b' false,i' 400]) [some (AO.cells [AV.slice 1002 off len 1 (Cp.lo len)] 122),some (AO.cells (AV.rens (sgN (nm01 (0,1002)) [] 0) (rowV encB P)) 11),some (AO.cells [s' y0',s' y0',e',e'] 64),some (AO.cells (rowV encS M) 18),none,none,none] 1102 ((k62' 1002 off len P).a ((k65' n).a ((k67' n).a ((k65' n).a (k12'.a ((k68' n len).a ((k69' off n 1002 P s1).a ((k70' s1 s2).a ((k71' s2 M 1101 r).a (k12'.a ((k72' M l0).a ((k73' l0 1100).a (k36'.a (k12'.a (k60'.a (k61'.a t')))))))))))))))) := by kernel_rfl
noncomputable section
abbrev k74' (q0 : Nat) : Cnd := (f' (Wk (b' (decide (Int.ofNat q0 < Int.ofNat 4))) j'))
abbrev k75' (q0 : Nat) : Cnd := (f' (Wk (b' (Int.ofNat q0 != Int.ofNat 2)) g'))
end
theorem XS' (W : World) (P : List UInt8) (s1 s2 l0 : ByteArray) (M : List ByteArray) (off len n r : Nat) (F : HP) : wRun (cA P off len n l0 nil0 nil0 false) (AB' (hxA true false false false ++ hxB s1 s2 l0 M r true)) [] W AK' [.ptr 0 0] [(0, pO 1002 off len), (1002, rB1 P)] kNx F = VT.leaf (AV.tuple [AV.agg [s' y0',s' y0',e',e'],b' false,i' 400]) [some (AO.cells [AV.slice 1002 off len 1 (Cp.lo len)] 122),some (AO.cells (AV.rens (sgN (nm01 (0,1002)) [] 0) (rowV encB P)) 11),some (AO.cells [s' y0',s' y0',e',e'] 64),some (AO.cells (rowV encS M) 18),none,none,none] 1102 ((k62' 1002 off len P).a ((k74' n).a ((k75' n).a ((k67' n).a ((k74' n).a ((k75' n).a (k12'.a ((k68' n len).a ((k69' off n 1002 P s1).a ((k70' s1 s2).a ((k71' s2 M 1101 r).a (k12'.a ((k72' M l0).a ((k73' l0 1100).a (k36'.a (k12'.a (k60'.a (k61'.a t')))))))))))))))))) := by kernel_rfl
noncomputable section
abbrev k76' (q0 q1 : Nat) : Cnd := ((p' (true = true)).a ((p' ((q0 + 1).ble (q0 + 1) = true)).a ((p' ((q0 + 1).ble (q0 + 1) = true)).a (f' (Wk (AV.slice q1 1 q0 1 (Cp.lo q0)) (AV.slice q1 1 q0 1 (Cp.lo q0)))))))
abbrev k77' (q0 : Nat) : Cnd := (f' (Wk (z' ↑q0) (i' q0)))
abbrev k78' (q0 q1 q2 q3 q4 q5 q6 : Nat) (q7 q8 q9 : ByteArray) : Cnd := (p' (VW (AV.ptr 0 0::u'::AV.ptr q0 0::b' false::i' 0::i' q1::AV.slice q2 0 (q3 + 1) 1 (Cp.lo (q3 + 1))::ru4 (AV.ptr 0 0::i' q1::g'::i' q1::g'::g'::u'::u'::g'::g'::ru4 (u'::u'::g'::i' q1::g'::u'::g'::i' q1::g'::g'::u'::u'::g'::u'::AV.ptr 0 0::AV.ptr 0 0::AV.ptr 0 0::AV.slice q4 q5 q6 1 (Cp.lo q6)::i' q1::AV.slice q4 q5 q1 1 (Cp.lo q6)::s' q7::s' q8::AV.slice q2 0 (q3 + 1) 1 (Cp.lo (q3 + 1))::AV.slice q2 0 (q3 + 1) 1 (Cp.lo (q3 + 1))::AV.ptr q2 0::s' q9::b' true::g'::u'::AV.slice q2 0 (q3 + 1) 1 (Cp.lo (q3 + 1))::AV.slice q2 1 q3 1 (Cp.lo q3)::i' q3::i' 0::ru16 (ru16 (ru16 (ru4 (u'::u'::u'::[]))))))) (AV.ptr 0 0::a'::AV.ptr q0 0::a'::a'::i' q1::ra16 (ra16 (ra16 (a'::AV.slice q2 1 q3 1 (Cp.lo q3)::i' q3::i' 0::ra16 (ra16 (ra16 (ra4 (a'::a'::a'::[]))))))))))
abbrev k79' (q0 q1 : ByteArray) : Cnd := (p' (OW (AO.cells [s' q0,s' q1,e',e'] 64) (AO.cells [s' q0,s' q1,e',e'] 64)))
abbrev k80' (q0 : List ByteArray) (q1 q2 q3 : Nat) : Cnd := (p' (OW (AO.cells (rowV encS q0) 18) (AO.cells (AV.rens (nmNl ((q1,q2),0,q3)) (rowV encS q0)) 18)))
abbrev k81' (q0 q1 q2 : Nat) : Cnd := (p' (OW (AO.cells [AV.slice q0 q1 q2 1 (Cp.lo q2)] 122) (AO.cells [AV.slice q0 q1 q2 1 (Cp.lo q2)] 122)))
abbrev k82' (q0 : Nat) (q1 : List UInt8) (q2 q3 : Nat) : Cnd := (p' (OW (AO.cells (AV.rens (sgN (nm01 (0,q0)) [] 0) (rowV encB q1)) 11) (AO.cells (AV.rens (nmNl ((q2,q3),0,q0)) (rowV encB q1)) 11)))
abbrev k83' : Cnd := (p' ([s' nil0,s' nil0,e',e'] = [s' nil0,s' nil0,e',e']))
end
theorem dZ' (W : World) (P : List UInt8) (s1 s2 l0 m t : ByteArray) (M : List ByteArray) (off len n r : Nat) (F : HP) : wRun (cA P off len n l0 m t true) (AB' (hxA false false false false ++ hxB s1 s2 l0 M r false)) [(AK', 11, A4' AK' 11, lNlX P off len M m t n r)] W AK' [.ptr 0 0] [(0, pO 1002 off len), (1002, rB1 P)] kNx F = VT.leaf (AV.tuple [AV.agg [s' nil0,s' nil0,e',e'],b' false,i' 400]) [some (AO.cells [AV.slice 1002 off len 1 (Cp.lo len)] 122),some (AO.cells (AV.rens (sgN (nmNl ((1100,1101),0,1002)) [] 0) (rowV encB P)) 11),some (AO.cells [s' nil0,s' nil0,e',e'] 64),none,none,none,none] 1102 ((k62' 1002 off len P).a ((k65' n).a ((k67' n).a ((k65' n).a (k12'.a ((k68' n len).a ((k69' off n 1002 P s1).a ((k70' s1 s2).a ((k71' s2 M 1101 r).a (k12'.a ((k72' M l0).a ((k73' l0 1100).a (k18'.a ((k76' r 1101).a ((k77' r).a ((p' ((AK',11,A4' AK' 11,lNlX P off len M m t n r).snd.snd.fst = (AK',11,A4' AK' 11,lNlX P off len M m t n r).snd.snd.fst)).a (k15'.a ((k78' 1100 n 1101 r 1002 off len s1 s2 l0).a ((k79' m t).a ((k80' M 1100 1101 1002).a ((k81' 1002 off len).a ((k82' 1002 P 1100 1101).a (k60'.a (k83'.a t')))))))))))))))))))))))) := by kernel_rfl
noncomputable section
abbrev k84' (q0 : List UInt8) (q1 q2 : Nat) (q3 : List ByteArray) (q4 q5 : ByteArray) (q6 q7 : Nat) (q8 : Hds) : Cnd := (p' ((AK',11,A4' AK' 11,lNl q0 q1 q2 q3 q4 q5 q6 q7 q8).snd.snd.fst = (AK',11,A4' AK' 11,lNl q0 q1 q2 q3 q4 q5 q6 q7 q8).snd.snd.fst))
abbrev k85' (q0 q1 : ByteArray) (q2 : Nat) (q3 : Hds) (q4 q5 q6 q7 : Nat) : Cnd := ((p' True).a ((p' (VW [AV.agg [s' q0,s' q1,AV.slice q2 0 (List.length q3) 2 (Cp.lo (List.length q3)),e']] [AV.agg [s' q0,s' q1,AV.slice q2 0 (List.length q3) 2 (Cp.lo (List.length q3)),e']])).a (f' (OW (AO.cells (AV.rens (sgN (nmNl ((q4,q5),0,q6)) [q7] q2) (rowV encP q3)) 78) (AO.cells (AV.rens (nm0 q2) (rowV encP q3)) 78)))))
end
theorem dY' (W : World) (P : List UInt8) (s1 s2 l0 m t : ByteArray) (M : List ByteArray) (L : Hds) (off len n r sz : Nat) (F : HP) : wRun (cA P off len n l0 m t true ++ [(fLen, cLen L m t (Int.ofNat 0) false)]) (AB' (hxA false false false false ++ hxB s1 s2 l0 M r false ++ hxC n sz true false false)) [(AK', 11, A4' AK' 11, lNl P off len M m t n r L)] W AK' [.ptr 0 0] [(0, pO 1002 off len), (1002, rB1 P)] kNx F = VT.leaf (AV.tuple [AV.agg [s' y0',s' y0',e',e'],b' false,i' 400]) [some (AO.cells [AV.slice 1002 off len 1 (Cp.lo len)] 122),some (AO.cells (AV.rens (sgN (nmNl ((1100,1101),0,1002)) [1000] 1102) (rowV encB P)) 11),some (AO.cells [s' y0',s' y0',e',e'] 64),none,some (AO.cells (AV.rens (sgN (nm0 1102) [] 0) (rowV encP L)) 78),none,none] 1103 ((k62' 1002 off len P).a ((k65' n).a ((k67' n).a ((k65' n).a (k12'.a ((k68' n len).a ((k69' off n 1002 P s1).a ((k70' s1 s2).a ((k71' s2 M 1101 r).a (k12'.a ((k72' M l0).a ((k73' l0 1100).a (k18'.a ((k76' r 1101).a ((k77' r).a ((k84' P off len M m t n r L).a (k15'.a ((k78' 1100 n 1101 r 1002 off len s1 s2 l0).a ((k79' m t).a ((k80' M 1100 1101 1002).a ((k81' 1002 off len).a ((k82' 1002 P 1100 1101).a ((k43' m t 1102 L).a ((k85' m t 1102 L 1100 1101 1002 1000).a (k36'.a (k12'.a (k60'.a (k61'.a t')))))))))))))))))))))))))))) := by kernel_rfl
noncomputable section
abbrev k86' (q0 : Nat) : Cnd := (f' (Wk (b' (decide (Int.ofNat q0 > Int.ofNat 65536))) j'))
end
theorem dX' (W : World) (P : List UInt8) (s1 s2 l0 m t : ByteArray) (M : List ByteArray) (L : Hds) (off len n r sz : Nat) (F : HP) : wRun (cA P off len n l0 m t true ++ [(fLen, cLen L m t (Int.ofNat sz) true)]) (AB' (hxA false false false false ++ hxB s1 s2 l0 M r false ++ hxC n sz false true false)) [(AK', 11, A4' AK' 11, lNl P off len M m t n r L)] W AK' [.ptr 0 0] [(0, pO 1002 off len), (1002, rB1 P)] kNx F = VT.leaf (AV.tuple [AV.agg [s' y0',s' y0',e',e'],b' false,i' 413]) [some (AO.cells [AV.slice 1002 off len 1 (Cp.lo len)] 122),some (AO.cells (AV.rens (sgN (nmNl ((1100,1101),0,1002)) [1000] 1102) (rowV encB P)) 11),some (AO.cells [s' y0',s' y0',e',e'] 64),none,some (AO.cells (AV.rens (sgN (nm0 1102) [] 0) (rowV encP L)) 78),none,none] 1103 ((k62' 1002 off len P).a ((k65' n).a ((k67' n).a ((k65' n).a (k12'.a ((k68' n len).a ((k69' off n 1002 P s1).a ((k70' s1 s2).a ((k71' s2 M 1101 r).a (k12'.a ((k72' M l0).a ((k73' l0 1100).a (k18'.a ((k76' r 1101).a ((k77' r).a ((k84' P off len M m t n r L).a (k15'.a ((k78' 1100 n 1101 r 1002 off len s1 s2 l0).a ((k79' m t).a ((k80' M 1100 1101 1002).a ((k81' 1002 off len).a ((k82' 1002 P 1100 1101).a ((k43' m t 1102 L).a ((k85' m t 1102 L 1100 1101 1002 1000).a (k18'.a ((k86' sz).a (k12'.a (k60'.a (k61'.a t'))))))))))))))))))))))))))))) := by kernel_rfl
noncomputable section
abbrev k87' (q0 : Nat) : Cnd := (f' (Wk (b' (decide (Int.ofNat q0 > Int.ofNat 65536))) g'))
abbrev k88' (q0 q1 q2 : Nat) : Cnd := (f' (Wk (b' (decide (IntKind.i64.wrap (↑q0 - Int.ofNat q1) < Int.ofNat q2))) j'))
end
theorem dW' (W : World) (P : List UInt8) (s1 s2 l0 m t : ByteArray) (M : List ByteArray) (L : Hds) (off len n r sz : Nat) (F : HP) : wRun (cA P off len n l0 m t true ++ [(fLen, cLen L m t (Int.ofNat sz) true)]) (AB' (hxA false false false false ++ hxB s1 s2 l0 M r false ++ hxC n sz false false true)) [(AK', 11, A4' AK' 11, lNl P off len M m t n r L)] W AK' [.ptr 0 0] [(0, pO 1002 off len), (1002, rB1 P)] kNx F = VT.leaf (AV.tuple [AV.agg [s' y0',s' y0',e',e'],b' false,i' 0]) [some (AO.cells [AV.slice 1002 off len 1 (Cp.lo len)] 122),some (AO.cells (AV.rens (sgN (nmNl ((1100,1101),0,1002)) [1000] 1102) (rowV encB P)) 11),some (AO.cells [s' y0',s' y0',e',e'] 64),none,some (AO.cells (AV.rens (sgN (nm0 1102) [] 0) (rowV encP L)) 78),none,none] 1103 ((k62' 1002 off len P).a ((k65' n).a ((k67' n).a ((k65' n).a (k12'.a ((k68' n len).a ((k69' off n 1002 P s1).a ((k70' s1 s2).a ((k71' s2 M 1101 r).a (k12'.a ((k72' M l0).a ((k73' l0 1100).a (k18'.a ((k76' r 1101).a ((k77' r).a ((k84' P off len M m t n r L).a (k15'.a ((k78' 1100 n 1101 r 1002 off len s1 s2 l0).a ((k79' m t).a ((k80' M 1100 1101 1002).a ((k81' 1002 off len).a ((k82' 1002 P 1100 1101).a ((k43' m t 1102 L).a ((k85' m t 1102 L 1100 1101 1002 1000).a (k18'.a ((k87' sz).a (k12'.a ((k88' len n sz).a (k12'.a (k60'.a (k61'.a t'))))))))))))))))))))))))))))))) := by kernel_rfl
noncomputable section
abbrev k89' (q0 q1 q2 : Nat) : Cnd := (f' (Wk (b' (decide (IntKind.i64.wrap (↑q0 - Int.ofNat q1) < Int.ofNat q2))) g'))
abbrev k90' (q0 q1 : Nat) : Cnd := (f' (Wk (z' (IntKind.i64.wrap (Int.ofNat q0 + Int.ofNat q1))) (i' (q0 + q1))))
abbrev k91' (q0 q1 q2 : Nat) : Cnd := ((p' (q0.ble (q0 + q1) = true)).a ((p' ((q0 + q1).ble q2 = true)).a (f' (q2.ble q2 = true))))
abbrev k92' (q0 q1 : ByteArray) (q2 : Nat) (q3 : Hds) (q4 q5 : Nat) : Cnd := ((p' (true = true)).a (f' ([s' q0,s' q1,AV.slice q2 0 (List.length q3) 2 (Cp.lo (List.length q3)),AV.slice q4 0 q5 1 (Cp.lo q5)] = [s' q0,s' q1,AV.slice q2 0 (List.length q3) 2 (Cp.lo (List.length q3)),AV.slice q4 0 q5 1 (Cp.lo q5)])))
abbrev k93' (q0 q1 : ByteArray) (q2 : Nat) (q3 : Hds) (q4 q5 : Nat) : Cnd := (p' ([s' q0,s' q1,AV.slice q2 0 (List.length q3) 2 (Cp.lo (List.length q3)),AV.slice q4 0 q5 1 (Cp.lo q5)] = [s' q0,s' q1,AV.slice q2 0 (List.length q3) 2 (Cp.lo (List.length q3)),AV.slice q4 0 q5 1 (Cp.lo q5)]))
end
theorem XQ' (W : World) (P : List UInt8) (s1 s2 l0 m t : ByteArray) (M : List ByteArray) (L : Hds) (off len n r sz : Nat) (B : List UInt8) (F : HP) : wRun (cA P off len n l0 m t true ++ [(fLen, cLen L m t (Int.ofNat sz) true)]) (AB' (hxA false false false false ++ hxB s1 s2 l0 M r false ++ hxC n sz false false false ++ [(GC', 1, 1, hv (.lit false)), (GC', 3, 2, hvo (sB 1104 sz) 1104 (rB B))])) [(AK', 11, A4' AK' 11, lNl P off len M m t n r L)] W AK' [.ptr 0 0] [(0, pO 1002 off len), (1002, rB1 P)] kNx F = VT.leaf (AV.tuple [AV.agg [s' m,s' t,AV.slice 1102 0 (List.length L) 2 (Cp.lo (List.length L)),AV.slice 1104 0 sz 1 (Cp.lo sz)],b' true,i' 0]) [some (AO.cells [AV.slice 1002 (off + (n + sz) * 1) (len - (n + sz)) 1 (Cp.lo (len - (n + sz)))] 122),some (AO.cells (AV.rens (sgN (nmNl ((1100,1101),0,1002)) [1000] 1102) (rowV encB P)) 11),some (AO.cells [s' m,s' t,AV.slice 1102 0 (List.length L) 2 (Cp.lo (List.length L)),AV.slice 1104 0 sz 1 (Cp.lo sz)] 64),none,some (AO.cells (AV.rens (sgN (nm0 1102) [] 0) (rowV encP L)) 78),some (AO.cells (rep [AV.v (Value.int IntKind.u8 (Int.ofNat 0))] 0) 10),some (AO.cells (rowV encB B) 10)] 1105 ((k62' 1002 off len P).a ((k65' n).a ((k67' n).a ((k65' n).a (k12'.a ((k68' n len).a ((k69' off n 1002 P s1).a ((k70' s1 s2).a ((k71' s2 M 1101 r).a (k12'.a ((k72' M l0).a ((k73' l0 1100).a (k18'.a ((k76' r 1101).a ((k77' r).a ((k84' P off len M m t n r L).a (k15'.a ((k78' 1100 n 1101 r 1002 off len s1 s2 l0).a ((k79' m t).a ((k80' M 1100 1101 1002).a ((k81' 1002 off len).a ((k82' 1002 P 1100 1101).a ((k43' m t 1102 L).a ((k85' m t 1102 L 1100 1101 1002 1000).a (k18'.a ((k87' sz).a (k12'.a ((k89' len n sz).a (k12'.a ((k90' n sz).a ((k91' n sz len).a (((f' (Wk (b' false) g')).a (((p' ((n + sz - n).ble (n + sz - n) = true)).a ((p' ((List.take ((n + sz - n) * 1) (List.drop (off + n * 1) (AV.rens (sgN (nmNl ((1100,1101),0,1002)) [1000] 1102) (rowV encB P)))).length.beq ((n + sz - n) * 1) = true)).a ((p' ((List.take ((n + sz - n) * 1) (List.drop (off + n * 1) (AV.rens (sgN (nmNl ((1100,1101),0,1002)) [1000] 1102) (rowV encB P)))).all AV.one = true)).a ((p' (Nat.blt 0 (n + sz - n) = true)).a ((p' (true = true)).a ((p' (((0 + (n + sz - n)) * 1).ble 140737488355328 = true)).a ((p' ((0 + (n + sz - n)).ble 9223372036854775807 = true)).a ((p' (true = true)).a ((p' (Nat.blt 0 (0 + (n + sz - n)) = true)).a ((p' (OW (AO.cells ([] ++ List.take ((n + sz - n) * 1) (List.drop (off + n * 1) (AV.rens (sgN (nmNl ((1100,1101),0,1002)) [1000] 1102) (rowV encB P)))) 10) (AO.cells (rowV encB B) 10))).a (f' (Wk (AV.slice 1104 0 (0 + (n + sz - n)) 1 (Cp.lo (0 + (n + sz - n)))) (AV.slice 1104 0 sz 1 (Cp.lo sz)))))))))))))).a t')).a (k12'.a (k12'.a ((k90' n sz).a (((p' ((n + sz).ble len = true)).a ((p' (len.ble len = true)).a (f' (len.ble len = true)))).a (k12'.a ((k92' m t 1102 L 1104 sz).a (k12'.a (k60'.a ((k93' m t 1102 L 1104 sz).a t'))))))))))))))))))))))))))))))))))))))))) := by kernel_rfl
noncomputable section
abbrev k94' (q0 q1 : Nat) : Cnd := (f' (Wk (b' (decide (IntKind.i64.wrap (↑q0 - Int.ofNat q1) < Int.ofNat 0))) g'))
abbrev k95' (q0 : Nat) : Cnd := (f' (Wk (z' (IntKind.i64.wrap (Int.ofNat q0 + Int.ofNat 0))) (i' q0)))
abbrev k96' (q0 q1 : Nat) : Cnd := ((p' (q0.ble q0 = true)).a ((p' (q0.ble q1 = true)).a (f' (q1.ble q1 = true))))
abbrev k97' (q0 : Nat) : Cnd := ((f' (Wk (b' false) g')).a ((f' (q0 - q0 = 0)).a t'))
abbrev k98' (q0 q1 : Nat) : Cnd := ((p' (q0.ble q1 = true)).a ((p' (q1.ble q1 = true)).a (f' (q1.ble q1 = true))))
end
theorem XR' (W : World) (P : List UInt8) (s1 s2 l0 m t : ByteArray) (M : List ByteArray) (L : Hds) (off len n r sz : Nat) (F : HP) : wRun (cA P off len n l0 m t true ++ [(fLen, cLen L m t (Int.ofNat 0) true)]) (AB' (hxA false false false false ++ hxB s1 s2 l0 M r false ++ hxC n 0 false false false ++ [(GC', 1, 1, hv (.lit false)), (GC', 3, 2, h0)])) [(AK', 11, A4' AK' 11, lNl P off len M m t n r L)] W AK' [.ptr 0 0] [(0, pO 1002 off len), (1002, rB1 P)] kNx F = VT.leaf (AV.tuple [AV.agg [s' m,s' t,AV.slice 1102 0 (List.length L) 2 (Cp.lo (List.length L)),AV.slice 1103 0 0 1 (Cp.ex 0)],b' true,i' 0]) [some (AO.cells [AV.slice 1002 (off + n * 1) (len - n) 1 (Cp.lo (len - n))] 122),some (AO.cells (AV.rens (sgN (nmNl ((1100,1101),0,1002)) [1000] 1102) (rowV encB P)) 11),some (AO.cells [s' m,s' t,AV.slice 1102 0 (List.length L) 2 (Cp.lo (List.length L)),AV.slice 1103 0 0 1 (Cp.ex 0)] 64),none,some (AO.cells (AV.rens (sgN (nm0 1102) [] 0) (rowV encP L)) 78),some (AO.cells (rep [AV.v (Value.int IntKind.u8 (Int.ofNat 0))] 0) 10),none] 1104 ((k62' 1002 off len P).a ((k65' n).a ((k67' n).a ((k65' n).a (k12'.a ((k68' n len).a ((k69' off n 1002 P s1).a ((k70' s1 s2).a ((k71' s2 M 1101 r).a (k12'.a ((k72' M l0).a ((k73' l0 1100).a (k18'.a ((k76' r 1101).a ((k77' r).a ((k84' P off len M m t n r L).a (k15'.a ((k78' 1100 n 1101 r 1002 off len s1 s2 l0).a ((k79' m t).a ((k80' M 1100 1101 1002).a ((k81' 1002 off len).a ((k82' 1002 P 1100 1101).a ((k43' m t 1102 L).a ((k85' m t 1102 L 1100 1101 1002 1000).a (k18'.a (k18'.a (k12'.a ((k94' len n).a (k12'.a ((k95' n).a ((k96' n len).a ((k97' n).a (k12'.a (k12'.a ((k95' n).a ((k98' n len).a (k12'.a (((p' (true = true)).a (f' ([s' m,s' t,AV.slice 1102 0 (List.length L) 2 (Cp.lo (List.length L)),AV.slice 1103 0 0 1 (Cp.ex 0)] = [s' m,s' t,AV.slice 1102 0 (List.length L) 2 (Cp.lo (List.length L)),AV.slice 1103 0 0 1 (Cp.ex 0)]))).a (k12'.a (k60'.a (f' ([s' m,s' t,AV.slice 1102 0 (List.length L) 2 (Cp.lo (List.length L)),AV.slice 1103 0 0 1 (Cp.ex 0)] = [s' m,s' t,AV.slice 1102 0 (List.length L) 2 (Cp.lo (List.length L)),AV.slice 1103 0 0 1 (Cp.ex 0)])))))))))))))))))))))))))))))))))))))))))) := by kernel_rfl
theorem XP' (W : World) (P : List UInt8) (s1 s2 l0 m t : ByteArray) (M : List ByteArray) (L : Hds) (off len n r sz : Nat) (F : HP) : wRun (cA P off len n l0 m t true ++ [(fLen, hZ' m t)]) (AB' (hxA false false false false ++ hxB s1 s2 l0 M r false ++ hxC n 0 false false false ++ [(GC', 1, 1, hv (.lit false)), (GC', 3, 2, h0)])) [(AK', 11, A4' AK' 11, lNlZ P off len M m t n r)] W AK' [.ptr 0 0] [(0, pO 1002 off len), (1002, rB1 P)] kNx F = VT.leaf (AV.tuple [AV.agg [s' m,s' t,e',AV.slice 1102 0 0 1 (Cp.ex 0)],b' true,i' 0]) [some (AO.cells [AV.slice 1002 (off + n * 1) (len - n) 1 (Cp.lo (len - n))] 122),some (AO.cells (AV.rens (sgN (nmNl ((1100,1101),0,1002)) [] 0) (rowV encB P)) 11),some (AO.cells [s' m,s' t,e',AV.slice 1102 0 0 1 (Cp.ex 0)] 64),none,some (AO.cells (rep [AV.v (Value.int IntKind.u8 (Int.ofNat 0))] 0) 10),none,none] 1103 ((k62' 1002 off len P).a ((k65' n).a ((k67' n).a ((k65' n).a (k12'.a ((k68' n len).a ((k69' off n 1002 P s1).a ((k70' s1 s2).a ((k71' s2 M 1101 r).a (k12'.a ((k72' M l0).a ((k73' l0 1100).a (k18'.a ((k76' r 1101).a ((k77' r).a ((p' ((AK',11,A4' AK' 11,lNlZ P off len M m t n r).snd.snd.fst = (AK',11,A4' AK' 11,lNlZ P off len M m t n r).snd.snd.fst)).a (k15'.a ((k78' 1100 n 1101 r 1002 off len s1 s2 l0).a ((k79' m t).a ((k80' M 1100 1101 1002).a ((k81' 1002 off len).a ((k82' 1002 P 1100 1101).a ((k44' m t).a (((Cnd.p True).a (f' (VW [AV.agg [s' m,s' t,e',e']] [AV.agg [s' m,s' t,e',e']]))).a (k18'.a (k18'.a (k12'.a ((k94' len n).a (k12'.a ((k95' n).a ((k96' n len).a ((k97' n).a (k12'.a (k12'.a ((k95' n).a ((k98' n len).a (k12'.a (((p' (true = true)).a (f' ([s' m,s' t,e',AV.slice 1102 0 0 1 (Cp.ex 0)] = [s' m,s' t,e',AV.slice 1102 0 0 1 (Cp.ex 0)]))).a (k12'.a (k60'.a (f' ([s' m,s' t,e',AV.slice 1102 0 0 1 (Cp.ex 0)] = [s' m,s' t,e',AV.slice 1102 0 0 1 (Cp.ex 0)])))))))))))))))))))))))))))))))))))))))))) := by kernel_rfl
end
theorem C9' (a : ByteArray) : (a.toList == []) = decide (a.size = 0) := by
 have h : ([] : List UInt8) = nil0.toList := by kernel_rfl
 rw [h, LJ']
 congr 1
 refine propext ⟨fun h => by rw [h]; rfl, fun h => ByteArray.ext (Array.eq_empty_of_size_eq_zero h)⟩
theorem LX' (c : ByteArray) : (!c.toList == [(ByteArray.mk (Array.mk [72, 84, 84, 80, 47, 49, 46, 49])).get! 0, (ByteArray.mk (Array.mk [72, 84, 84, 80, 47, 49, 46, 49])).get! 1, (ByteArray.mk (Array.mk [72, 84, 84, 80, 47, 49, 46, 49])).get! 2, (ByteArray.mk (Array.mk [72, 84, 84, 80, 47, 49, 46, 49])).get! 3, (ByteArray.mk (Array.mk [72, 84, 84, 80, 47, 49, 46, 49])).get! 4, (ByteArray.mk (Array.mk [72, 84, 84, 80, 47, 49, 46, 49])).get! 5, (ByteArray.mk (Array.mk [72, 84, 84, 80, 47, 49, 46, 49])).get! 6, (ByteArray.mk (Array.mk [72, 84, 84, 80, 47, 49, 46, 49])).get! 7]) = !decide (c = verB) := by
 have h : verB.toList = [(ByteArray.mk (Array.mk [72, 84, 84, 80, 47, 49, 46, 49])).get! 0, (ByteArray.mk (Array.mk [72, 84, 84, 80, 47, 49, 46, 49])).get! 1, (ByteArray.mk (Array.mk [72, 84, 84, 80, 47, 49, 46, 49])).get! 2, (ByteArray.mk (Array.mk [72, 84, 84, 80, 47, 49, 46, 49])).get! 3, (ByteArray.mk (Array.mk [72, 84, 84, 80, 47, 49, 46, 49])).get! 4, (ByteArray.mk (Array.mk [72, 84, 84, 80, 47, 49, 46, 49])).get! 5, (ByteArray.mk (Array.mk [72, 84, 84, 80, 47, 49, 46, 49])).get! 6, (ByteArray.mk (Array.mk [72, 84, 84, 80, 47, 49, 46, 49])).get! 7] := by kernel_rfl
 rw [← h, LJ']
theorem NY' (c : ByteArray) : (c.toList == [(ByteArray.mk (Array.mk [116, 114, 97, 110, 115, 102, 101, 114, 45, 101, 110, 99, 111, 100, 105, 110, 103])).get! 0, (ByteArray.mk (Array.mk [116, 114, 97, 110, 115, 102, 101, 114, 45, 101, 110, 99, 111, 100, 105, 110, 103])).get! 1, (ByteArray.mk (Array.mk [116, 114, 97, 110, 115, 102, 101, 114, 45, 101, 110, 99, 111, 100, 105, 110, 103])).get! 2, (ByteArray.mk (Array.mk [116, 114, 97, 110, 115, 102, 101, 114, 45, 101, 110, 99, 111, 100, 105, 110, 103])).get! 3, (ByteArray.mk (Array.mk [116, 114, 97, 110, 115, 102, 101, 114, 45, 101, 110, 99, 111, 100, 105, 110, 103])).get! 4, (ByteArray.mk (Array.mk [116, 114, 97, 110, 115, 102, 101, 114, 45, 101, 110, 99, 111, 100, 105, 110, 103])).get! 5, (ByteArray.mk (Array.mk [116, 114, 97, 110, 115, 102, 101, 114, 45, 101, 110, 99, 111, 100, 105, 110, 103])).get! 6, (ByteArray.mk (Array.mk [116, 114, 97, 110, 115, 102, 101, 114, 45, 101, 110, 99, 111, 100, 105, 110, 103])).get! 7, (ByteArray.mk (Array.mk [116, 114, 97, 110, 115, 102, 101, 114, 45, 101, 110, 99, 111, 100, 105, 110, 103])).get! 8, (ByteArray.mk (Array.mk [116, 114, 97, 110, 115, 102, 101, 114, 45, 101, 110, 99, 111, 100, 105, 110, 103])).get! 9, (ByteArray.mk (Array.mk [116, 114, 97, 110, 115, 102, 101, 114, 45, 101, 110, 99, 111, 100, 105, 110, 103])).get! 10, (ByteArray.mk (Array.mk [116, 114, 97, 110, 115, 102, 101, 114, 45, 101, 110, 99, 111, 100, 105, 110, 103])).get! 11, (ByteArray.mk (Array.mk [116, 114, 97, 110, 115, 102, 101, 114, 45, 101, 110, 99, 111, 100, 105, 110, 103])).get! 12, (ByteArray.mk (Array.mk [116, 114, 97, 110, 115, 102, 101, 114, 45, 101, 110, 99, 111, 100, 105, 110, 103])).get! 13, (ByteArray.mk (Array.mk [116, 114, 97, 110, 115, 102, 101, 114, 45, 101, 110, 99, 111, 100, 105, 110, 103])).get! 14, (ByteArray.mk (Array.mk [116, 114, 97, 110, 115, 102, 101, 114, 45, 101, 110, 99, 111, 100, 105, 110, 103])).get! 15, (ByteArray.mk (Array.mk [116, 114, 97, 110, 115, 102, 101, 114, 45, 101, 110, 99, 111, 100, 105, 110, 103])).get! 16]) = decide (c = teB) := by
 have h : teB.toList = [(ByteArray.mk (Array.mk [116, 114, 97, 110, 115, 102, 101, 114, 45, 101, 110, 99, 111, 100, 105, 110, 103])).get! 0, (ByteArray.mk (Array.mk [116, 114, 97, 110, 115, 102, 101, 114, 45, 101, 110, 99, 111, 100, 105, 110, 103])).get! 1, (ByteArray.mk (Array.mk [116, 114, 97, 110, 115, 102, 101, 114, 45, 101, 110, 99, 111, 100, 105, 110, 103])).get! 2, (ByteArray.mk (Array.mk [116, 114, 97, 110, 115, 102, 101, 114, 45, 101, 110, 99, 111, 100, 105, 110, 103])).get! 3, (ByteArray.mk (Array.mk [116, 114, 97, 110, 115, 102, 101, 114, 45, 101, 110, 99, 111, 100, 105, 110, 103])).get! 4, (ByteArray.mk (Array.mk [116, 114, 97, 110, 115, 102, 101, 114, 45, 101, 110, 99, 111, 100, 105, 110, 103])).get! 5, (ByteArray.mk (Array.mk [116, 114, 97, 110, 115, 102, 101, 114, 45, 101, 110, 99, 111, 100, 105, 110, 103])).get! 6, (ByteArray.mk (Array.mk [116, 114, 97, 110, 115, 102, 101, 114, 45, 101, 110, 99, 111, 100, 105, 110, 103])).get! 7, (ByteArray.mk (Array.mk [116, 114, 97, 110, 115, 102, 101, 114, 45, 101, 110, 99, 111, 100, 105, 110, 103])).get! 8, (ByteArray.mk (Array.mk [116, 114, 97, 110, 115, 102, 101, 114, 45, 101, 110, 99, 111, 100, 105, 110, 103])).get! 9, (ByteArray.mk (Array.mk [116, 114, 97, 110, 115, 102, 101, 114, 45, 101, 110, 99, 111, 100, 105, 110, 103])).get! 10, (ByteArray.mk (Array.mk [116, 114, 97, 110, 115, 102, 101, 114, 45, 101, 110, 99, 111, 100, 105, 110, 103])).get! 11, (ByteArray.mk (Array.mk [116, 114, 97, 110, 115, 102, 101, 114, 45, 101, 110, 99, 111, 100, 105, 110, 103])).get! 12, (ByteArray.mk (Array.mk [116, 114, 97, 110, 115, 102, 101, 114, 45, 101, 110, 99, 111, 100, 105, 110, 103])).get! 13, (ByteArray.mk (Array.mk [116, 114, 97, 110, 115, 102, 101, 114, 45, 101, 110, 99, 111, 100, 105, 110, 103])).get! 14, (ByteArray.mk (Array.mk [116, 114, 97, 110, 115, 102, 101, 114, 45, 101, 110, 99, 111, 100, 105, 110, 103])).get! 15, (ByteArray.mk (Array.mk [116, 114, 97, 110, 115, 102, 101, 114, 45, 101, 110, 99, 111, 100, 105, 110, 103])).get! 16] := by kernel_rfl
 rw [← h, LJ']
def lnO (r : Option (ByteArray × ByteArray)) : AO := match r with
 | some p => rqO p.1 p.2 nilP nilB
 | none => rqO nil0 nil0 nilP nilB
theorem ST' {W : World} (hW : LW W) (s : ByteArray) (hs : s.size ≤ 8192) : Tri Tryz.prog W CU' [sv s, .ptr 0 0] [(0, rqO nil0 nil0 nilP nilB)] (bv (lnB s).isSome) [(0, lnO (lnB s))] := by
 have hq : s.size < 4294967281 := by omega
 have hcon : ∀ F, AE' W F → ∀ x ∈ cnLn, C1OK Tryz.prog F x.1 x.2 := fun F hF => A5' (D9' hW hF) (A5' (BT' hF) (AP' (ZV' hF)))
 by_cases h3 : ∃ a b c, splB s spB = [a, b, c]
 ·obtain ⟨a, b, c, h⟩ := h3
  have hl : lnB s = lnW a b c := by unfold lnB; rw [h]
  have h : splB s (ByteArray.mk (Array.mk [32])) = [a, b, c] := h
  have ha : a.size ≤ 4000000 := Nat.le_trans (BP' (s := s) (t := ByteArray.mk (Array.mk [32])) (by rw [h]; simp)) (by omega)
  have hb : b.size ≤ 4000000 := Nat.le_trans (BP' (s := s) (t := ByteArray.mk (Array.mk [32])) (by rw [h]; simp)) (by omega)
  have row : OW (AO.cells (vmap (List.map Value.string (splB s (ByteArray.mk (Array.mk [32]))))) tStr) (AO.cells [sv a, sv b, sv c] tStr) := by rw [h]; exact o0
  have slw : Wk (AV.slice 1100 0 (List.map Value.string (splB s (ByteArray.mk (Array.mk [32])))).length 1 (Cp.lo (List.map Value.string (splB s (ByteArray.mk (Array.mk [32])))).length)) (AV.slice 1100 0 3 1 (Cp.lo 3)) := by rw [h]; exact w0
  rw [hl]
  unfold lnW
  by_cases g1 : a.size = 0
  ·rw [if_pos g1]
   show Tri _ _ _ _ _ (bv false) [(0, rqO nil0 nil0 nilP nilB)]
   refine AA' (con := cnLn) (hints := hLn s a b c [a, b, c] 3 false true false false false false false true) (lc := []) [0] rfl hcon (fun F hF => noL) fun F => ?_
   refine cv (eG' W s a b c F) ⟨⟨?_, (AF' (vs' := [bv false]) (H' := [(0, rqO nil0 nil0 nilP nilB)]) [] rfl rfl (v0) ⟨⟨_, rfl, o0⟩, t0⟩).fits rfl⟩⟩
   simp only [Cnd.holds, hq, Nat.blt_eq, true_and, and_true]
   and_intros
   all_goals first
    | exact row
    | exact slw
    | exact A1' (by rw [C9' a]; exact decide_eq_true g1)
    | exact n0
    | exact hq
    | exact ha
    | exact hb
    | (unfold Five; decide) | (with_reducible first | exact t0 | exact r0 | exact A6' _ | assumption) | exact r0 | ((repeat (first | exact VW.nil | refine c1 ?_ | refine c2 ?_ | refine c3 ?_)); done)
  rw [if_neg g1]
  by_cases g2 : 20 < a.size
  ·rw [if_pos g2]
   show Tri _ _ _ _ _ (bv false) [(0, rqO nil0 nil0 nilP nilB)]
   refine AA' (con := cnLn) (hints := hLn s a b c [a, b, c] 3 false false true false false false false true) (lc := []) [0] rfl hcon (fun F hF => noL) fun F => ?_
   refine cv (eF' W s a b c F) ⟨⟨?_, (AF' (vs' := [bv false]) (H' := [(0, rqO nil0 nil0 nilP nilB)]) [] rfl rfl (v0) ⟨⟨_, rfl, o0⟩, t0⟩).fits rfl⟩⟩
   simp only [Cnd.holds, hq, Nat.blt_eq, true_and, and_true]
   and_intros
   all_goals first
    | exact row
    | exact slw
    | exact A1' (by rw [C9' a]; exact decide_eq_false g1)
    | exact A1' (decide_eq_true (by simp only [Z0, Z1]; omega))
    | exact n0
    | exact hq
    | exact ha
    | exact hb
    | (unfold Five; decide) | (with_reducible first | exact t0 | exact r0 | exact A6' _ | assumption) | exact r0 | ((repeat (first | exact VW.nil | refine c1 ?_ | refine c2 ?_ | refine c3 ?_)); done)
  rw [if_neg g2]
  by_cases g3 : qIn fQl a = false
  ·rw [if_pos g3]
   show Tri _ _ _ _ _ (bv false) [(0, rqO nil0 nil0 nilP nilB)]
   refine AA' (con := cnLn) (hints := hLn s a b c [a, b, c] 3 false false false true false false false true) (lc := []) [0] rfl hcon (fun F hF => noL) fun F => ?_
   refine cv (eE' W s a b c F) ⟨⟨?_, (AF' (vs' := [bv false]) (H' := [(0, rqO nil0 nil0 nilP nilB)]) [] rfl rfl (v0) ⟨⟨_, rfl, o0⟩, t0⟩).fits rfl⟩⟩
   simp only [Cnd.holds, hq, Nat.blt_eq, true_and, and_true]
   and_intros
   all_goals first
    | exact row
    | exact slw
    | exact A1' (by rw [C9' a]; exact decide_eq_false g1)
    | exact A1' (decide_eq_false (by simp only [Z0, Z1]; omega))
    | exact A1' (by rw [g3]; rfl)
    | exact n0
    | exact hq
    | exact ha
    | exact hb
    | (unfold Five; decide) | (with_reducible first | exact t0 | exact r0 | exact A6' _ | assumption) | exact r0 | ((repeat (first | exact VW.nil | refine c1 ?_ | refine c2 ?_ | refine c3 ?_)); done)
  rw [if_neg g3]
  have g3 := eq_true_of_ne_false g3
  by_cases g4 : GQ' b slB = false
  ·rw [if_pos g4]
   show Tri _ _ _ _ _ (bv false) [(0, rqO nil0 nil0 nilP nilB)]
   refine AA' (con := cnLn) (hints := hLn s a b c [a, b, c] 3 false false false false true false false true) (lc := []) [0] rfl hcon (fun F hF => noL) fun F => ?_
   refine cv (eD' W s a b c F) ⟨⟨?_, (AF' (vs' := [bv false]) (H' := [(0, rqO nil0 nil0 nilP nilB)]) [] rfl rfl (v0) ⟨⟨_, rfl, o0⟩, t0⟩).fits rfl⟩⟩
   simp only [Cnd.holds, hq, Nat.blt_eq, true_and, and_true]
   and_intros
   all_goals first
    | exact row
    | exact slw
    | exact A1' (by rw [C9' a]; exact decide_eq_false g1)
    | exact A1' (decide_eq_false (by simp only [Z0, Z1]; omega))
    | exact A1' (by rw [g3]; rfl)
    | exact A1' (congrArg (!·) g4)
    | exact n0
    | exact hq
    | exact ha
    | exact hb
    | (unfold Five; decide) | (with_reducible first | exact t0 | exact r0 | exact A6' _ | assumption) | exact r0 | ((repeat (first | exact VW.nil | refine c1 ?_ | refine c2 ?_ | refine c3 ?_)); done)
  rw [if_neg g4]
  have g4 := eq_true_of_ne_false g4
  by_cases g5 : qIn fQs b = false
  ·rw [if_pos g5]
   show Tri _ _ _ _ _ (bv false) [(0, rqO nil0 nil0 nilP nilB)]
   refine AA' (con := cnLn) (hints := hLn s a b c [a, b, c] 3 false false false false false true false true) (lc := []) [0] rfl hcon (fun F hF => noL) fun F => ?_
   refine cv (eC' W s a b c F) ⟨⟨?_, (AF' (vs' := [bv false]) (H' := [(0, rqO nil0 nil0 nilP nilB)]) [] rfl rfl (v0) ⟨⟨_, rfl, o0⟩, t0⟩).fits rfl⟩⟩
   simp only [Cnd.holds, hq, Nat.blt_eq, true_and, and_true]
   and_intros
   all_goals first
    | exact row
    | exact slw
    | exact A1' (by rw [C9' a]; exact decide_eq_false g1)
    | exact A1' (decide_eq_false (by simp only [Z0, Z1]; omega))
    | exact A1' (by rw [g3]; rfl)
    | exact A1' (congrArg (!·) g4)
    | exact A1' (by rw [g5]; rfl)
    | exact n0
    | exact hq
    | exact ha
    | exact hb
    | (unfold Five; decide) | (with_reducible first | exact t0 | exact r0 | exact A6' _ | assumption) | exact r0 | ((repeat (first | exact VW.nil | refine c1 ?_ | refine c2 ?_ | refine c3 ?_)); done)
  rw [if_neg g5]
  have g5 := eq_true_of_ne_false g5
  by_cases g6 : c = verB
  ·rw [if_pos g6]
   show Tri _ _ _ _ _ (bv true) [(0, rqO a b nilP nilB)]
   refine AA' (con := cnLn) (hints := hLn s a b c [a, b, c] 3 false false false false false false false false) (lc := []) [0] rfl hcon (fun F hF => noL) fun F => ?_
   refine cv (eA' W s a b c F) ⟨⟨?_, (AF' (vs' := [bv true]) (H' := [(0, rqO a b nilP nilB)]) [] rfl rfl (v0) ⟨⟨_, rfl, o0⟩, t0⟩).fits rfl⟩⟩
   simp only [Cnd.holds, hq, Nat.blt_eq, true_and, and_true]
   and_intros
   all_goals first
    | exact row
    | exact slw
    | exact A1' (by rw [C9' a]; exact decide_eq_false g1)
    | exact A1' (decide_eq_false (by simp only [Z0, Z1]; omega))
    | exact A1' (by rw [g3]; rfl)
    | exact A1' (congrArg (!·) g4)
    | exact A1' (by rw [g5]; rfl)
    | exact A1' (by rw [LX' c, decide_eq_true g6]; rfl)
    | exact n0
    | exact hq
    | exact ha
    | exact hb
    | (unfold Five; decide) | (with_reducible first | exact t0 | exact r0 | exact A6' _ | assumption) | exact r0 | ((repeat (first | exact VW.nil | refine c1 ?_ | refine c2 ?_ | refine c3 ?_)); done)
  ·rw [if_neg g6]
   show Tri _ _ _ _ _ (bv false) [(0, rqO nil0 nil0 nilP nilB)]
   refine AA' (con := cnLn) (hints := hLn s a b c [a, b, c] 3 false false false false false false true true) (lc := []) [0] rfl hcon (fun F hF => noL) fun F => ?_
   refine cv (eB' W s a b c F) ⟨⟨?_, (AF' (vs' := [bv false]) (H' := [(0, rqO nil0 nil0 nilP nilB)]) [] rfl rfl (v0) ⟨⟨_, rfl, o0⟩, t0⟩).fits rfl⟩⟩
   simp only [Cnd.holds, hq, Nat.blt_eq, true_and, and_true]
   and_intros
   all_goals first
    | exact row
    | exact slw
    | exact A1' (by rw [C9' a]; exact decide_eq_false g1)
    | exact A1' (decide_eq_false (by simp only [Z0, Z1]; omega))
    | exact A1' (by rw [g3]; rfl)
    | exact A1' (congrArg (!·) g4)
    | exact A1' (by rw [g5]; rfl)
    | exact A1' (by rw [LX' c, decide_eq_false g6]; rfl)
    | exact n0
    | exact hq
    | exact ha
    | exact hb
    | (unfold Five; decide) | (with_reducible first | exact t0 | exact r0 | exact A6' _ | assumption) | exact r0 | ((repeat (first | exact VW.nil | refine c1 ?_ | refine c2 ?_ | refine c3 ?_)); done)
 ·have hl : lnB s = none := by
   unfold lnB
   split
   ·rename_i a b c h; exact absurd ⟨a, b, c, h⟩ h3
   ·rfl
  have hn : (splB s spB).length ≠ 3 := fun e => h3 (by
   match h : splB s spB with
   | [] => rw [h] at e; cases e
   | [_] => rw [h] at e; cases e
   | [_, _] => rw [h] at e; cases e
   | [a, b, c] => exact ⟨a, b, c, rfl⟩
   | _ :: _ :: _ :: _ :: _ => rw [h] at e; simp at e)
  rw [hl]
  show Tri _ _ _ _ _ (bv false) [(0, rqO nil0 nil0 nilP nilB)]
  have row : OW (AO.cells (vmap (List.map Value.string (splB s (ByteArray.mk (Array.mk [32]))))) tStr) (AO.cells (rowV encS (splB s spB)) tStr) := BB' (HE' _).symm
  have slw : Wk (AV.slice 1100 0 (List.map Value.string (splB s (ByteArray.mk (Array.mk [32])))).length 1 (Cp.lo (List.map Value.string (splB s (ByteArray.mk (Array.mk [32])))).length)) (AV.slice 1100 0 (splB s spB).length 1 (Cp.lo (splB s spB).length)) := by rw [List.length_map]; exact w0
  have ha : (0 : Nat) ≤ 0 := n0
  have hb : (0 : Nat) ≤ 0 := n0
  refine AA' (con := cnLn) (hints := hLn s s s s (splB s spB) (splB s spB).length true false false false false false false true) (lc := []) [0] rfl hcon (fun F hF => noL) fun F => ?_
  refine cv (eH' W s (splB s spB) (splB s spB).length F) ⟨⟨?_, (AF' (vs' := [bv false]) (H' := [(0, rqO nil0 nil0 nilP nilB)]) [] rfl rfl (v0) ⟨⟨_, rfl, o0⟩, t0⟩).fits rfl⟩⟩
  simp only [Cnd.holds, hq, Nat.blt_eq, true_and, and_true]
  and_intros
  all_goals first
   | exact row
   | exact slw
   | exact A1' (by rw [bne_iff_ne]; simp only [Z0]; omega)
   | exact n0
   | exact hq
   | exact ha
   | exact hb
   | (unfold Five; decide) | (with_reducible first | exact t0 | exact r0 | exact A6' _ | assumption) | exact r0 | ((repeat (first | exact VW.nil | refine c1 ?_ | refine c2 ?_ | refine c3 ?_)); done)
theorem gGr_ro : ∀ args, RO (gGr args) := by
 intro args
 unfold gGr
 split
 ·exact RO.ret _
 ·exact RO.fail _
theorem G7' (F : HP) (m t name : ByteArray) : C1OK Tryz.prog F fGet (HV' m t name) :=
 BK' (AE'.nothing F) (fun _ => .tuple [sv nil0, bv false]) VD' (fun _ => rfl) (fun _ _ => aE' m t name) fun _ => ⟨rfl, rfl, ⟨⟨t0, t0, t0, t0, t0⟩, t0, t0⟩, A3', ⟨⟨t0, t0, t0⟩, t0⟩, A3'⟩
theorem G6' (F : HP) (L : Hds) (m t name v : ByteArray) (ok : Bool) (hL : L.length ≤ 4000000) (h : gotV (getP L name) = .tuple [sv v, bv ok]) : C1OK Tryz.prog F fGet (cGet L m t name v ok) :=
 BK' (AE'.nothing F) (fun _ => .tuple [sv v, bv ok]) gGr_ro (fun _ => rfl) (fun _ _ => by rw [← h]; exact iD' L m t name hL) fun _ => ⟨rfl, rfl, ⟨⟨t0, t0, rfl, t0, t0⟩, t0, t0⟩, A0' (BN' _ _) A3', ⟨⟨t0, t0, t0⟩, t0⟩, A0' (BN' _ _) A3'⟩
theorem CC' : IO' (ByteArray.mk (Array.mk [32, 9])) := by
 intro j b h
 have hm : b ∈ [(32 : UInt8), 9] := List.mem_of_getElem? h
 rcases List.mem_cons.1 hm with rfl | hm
 ·decide
 ·rcases List.mem_cons.1 hm with rfl | hm
  ·decide
  ·cases hm
def hdZO (m t : ByteArray) (r : Option (ByteArray × ByteArray)) : LH := match r with
 | none => [(0, rqO m t nilP nilB)]
 | some p => [(0, rqO m t (sP 1000 1) nilB), (1000, rP [p])]
def hdRO (L : Hds) (m t : ByteArray) (r : Option (ByteArray × ByteArray)) : LH := match r with
 | none => [(0, rqO m t (sP 1000 L.length) nilB), (1000, rP L)]
 | some p => [(0, rqO m t (sP 1000 (L.length + 1)) nilB), (1000, rP (L ++ [p]))]
theorem U8' {L : Hds} {a b : ByteArray} {σ τ : Nat → Nat} : OW (.cells (List.take (L.length * 2) (List.drop 0 (AV.rens σ (rowV encP L))) ++ [sv a, sv b]) tPr) ((rP (L ++ [(a, b)])).ren τ) := by
 refine BQ' ?_ rfl
 rw [A2', List.drop_zero, List.take_of_length_le (by rw [DC']; exact n0), CK']
 rfl
theorem LB' {W : World} (hW : LW W) (s m t : ByteArray) (hs : s.size ≤ 8192) : Tri Tryz.prog W fHdr [sv s, .ptr 0 0] [(0, rqO m t nilP nilB)] (bv (hdrB [] s).isSome) (hdZO m t (hdrB [] s)) := by
 have hq : s.size < 4294967281 := by omega
 have ha : (cut1 s coB).size ≤ 4000000 := Nat.le_trans (P4' s coB) (by omega)
 have hb : (cut2 s coB).size ≤ 4000000 := Nat.le_trans (L1' s coB) (by omega)
 have ha2 : (cut1 s coB).size ≤ 140737488355328 := by omega
 have hb2 : (cut2 s coB).size < 4294967281 := by omega
 unfold hdrB hdrW
 have asc : qIn fQn (cut1 s coB) = true → IO' (cut1 s coB) := fun h => RO' _ h
 by_cases g1 : cutK s coB = false
 ·rw [if_pos g1]
  show Tri _ _ _ _ _ (bv false) [(0, rqO m t nilP nilB)]
  refine AA' (con := [(fCut, cCut), (fAll, cAll), (BO', cLow), (D5', D6'), (fGet, HV' m t (lowB (cut1 s coB)))]) (hints := hHd (cut1 s coB) (cut2 s coB) (lowB (cut1 s coB)) (BY' (cut2 s coB) wsB) nil0 false true false false false true false false) (lc := []) [0, 1100, 1101, 1102] rfl (fun F hF => A5' (D7' hW hF) (A5' (BT' hF) (A5' (CX' hF) (A5' (CG' hF) (AP' (G7' F _ _ _)))))) (fun F hF => noL) fun F => ?_
  refine cv (Y2' W s m t (cut1 s coB) (cut2 s coB) (lowB (cut1 s coB)) (BY' (cut2 s coB) wsB) F) ⟨⟨?_, (AF' (vs' := [bv false]) (H' := [(0, rqO m t nilP nilB)]) [] rfl rfl (v0) ⟨⟨_, rfl, o0⟩, t0⟩).fits rfl⟩⟩
  simp only [Cnd.holds, A2', Nat.blt_eq, true_and, and_true]
  and_intros
  all_goals first
   | exact B8' (VW.cons w0 (VW.cons w0 (VW.cons (A1' g1) VW.nil)))
   | exact B8' (VW.cons w0 (VW.cons (A6' _) VW.nil))
   | exact n0
   | exact hq
   | exact ha
   | exact hb
   | exact ha2
   | exact hb2
   | exact asc
   | exact CC'
   | (unfold Five; decide)
   | decide | (with_reducible first | exact t0 | exact r0 | exact A6' _ | assumption) | exact r0 | ((repeat (first | exact VW.nil | refine c1 ?_ | refine c2 ?_ | refine c3 ?_)); done)
 rw [if_neg g1]
 have g1 := eq_true_of_ne_false g1
 by_cases g2 : (cut1 s coB).size = 0
 ·rw [if_pos g2]
  show Tri _ _ _ _ _ (bv false) [(0, rqO m t nilP nilB)]
  refine AA' (con := [(fCut, cCut), (fAll, cAll), (BO', cLow), (D5', D6'), (fGet, HV' m t (lowB (cut1 s coB)))]) (hints := hHd (cut1 s coB) (cut2 s coB) (lowB (cut1 s coB)) (BY' (cut2 s coB) wsB) nil0 true false true false false true false false) (lc := []) [0, 1100, 1101, 1102] rfl (fun F hF => A5' (D7' hW hF) (A5' (BT' hF) (A5' (CX' hF) (A5' (CG' hF) (AP' (G7' F _ _ _)))))) (fun F hF => noL) fun F => ?_
  refine cv (Y1' W s m t (cut1 s coB) (cut2 s coB) (lowB (cut1 s coB)) (BY' (cut2 s coB) wsB) F) ⟨⟨?_, (AF' (vs' := [bv false]) (H' := [(0, rqO m t nilP nilB)]) [] rfl rfl (v0) ⟨⟨_, rfl, o0⟩, t0⟩).fits rfl⟩⟩
  simp only [Cnd.holds, A2', Nat.blt_eq, true_and, and_true]
  and_intros
  all_goals first
   | exact B8' (VW.cons w0 (VW.cons w0 (VW.cons (A1' g1) VW.nil)))
   | exact B8' (VW.cons w0 (VW.cons (A6' _) VW.nil))
   | exact A1' (by rw [C9']; exact decide_eq_true g2)
   | exact n0
   | exact hq
   | exact ha
   | exact hb
   | exact ha2
   | exact hb2
   | exact asc
   | exact CC'
   | (unfold Five; decide)
   | decide | (with_reducible first | exact t0 | exact r0 | exact A6' _ | assumption) | exact r0 | ((repeat (first | exact VW.nil | refine c1 ?_ | refine c2 ?_ | refine c3 ?_)); done)
 rw [if_neg g2]
 by_cases g3 : qIn fQn (cut1 s coB) = false
 ·rw [if_pos g3]
  show Tri _ _ _ _ _ (bv false) [(0, rqO m t nilP nilB)]
  refine AA' (con := [(fCut, cCut), (fAll, cAll), (BO', cLow), (D5', D6'), (fGet, HV' m t (lowB (cut1 s coB)))]) (hints := hHd (cut1 s coB) (cut2 s coB) (lowB (cut1 s coB)) (BY' (cut2 s coB) wsB) nil0 true false false true false true false false) (lc := []) [0, 1100, 1101, 1102] rfl (fun F hF => A5' (D7' hW hF) (A5' (BT' hF) (A5' (CX' hF) (A5' (CG' hF) (AP' (G7' F _ _ _)))))) (fun F hF => noL) fun F => ?_
  refine cv (Y0' W s m t (cut1 s coB) (cut2 s coB) (lowB (cut1 s coB)) (BY' (cut2 s coB) wsB) F) ⟨⟨?_, (AF' (vs' := [bv false]) (H' := [(0, rqO m t nilP nilB)]) [] rfl rfl (v0) ⟨⟨_, rfl, o0⟩, t0⟩).fits rfl⟩⟩
  simp only [Cnd.holds, A2', Nat.blt_eq, true_and, and_true]
  and_intros
  all_goals first
   | exact B8' (VW.cons w0 (VW.cons w0 (VW.cons (A1' g1) VW.nil)))
   | exact B8' (VW.cons w0 (VW.cons (A6' _) VW.nil))
   | exact A1' (by rw [C9']; exact decide_eq_false g2)
   | exact A1' (by rw [g3]; rfl)
   | exact n0
   | exact hq
   | exact ha
   | exact hb
   | exact ha2
   | exact hb2
   | exact asc
   | exact CC'
   | (unfold Five; decide)
   | decide | (with_reducible first | exact t0 | exact r0 | exact A6' _ | assumption) | exact r0 | ((repeat (first | exact VW.nil | refine c1 ?_ | refine c2 ?_ | refine c3 ?_)); done)
 rw [if_neg g3]
 have g3 := eq_true_of_ne_false g3
 have asc := asc g3
 by_cases g4 : qIn fQh (cut2 s coB) = false
 ·rw [if_pos g4]
  show Tri _ _ _ _ _ (bv false) [(0, rqO m t nilP nilB)]
  refine AA' (con := [(fCut, cCut), (fAll, cAll), (BO', cLow), (D5', D6'), (fGet, HV' m t (lowB (cut1 s coB)))]) (hints := hHd (cut1 s coB) (cut2 s coB) (lowB (cut1 s coB)) (BY' (cut2 s coB) wsB) nil0 true false false false true true false false) (lc := []) [0, 1100, 1101, 1102] rfl (fun F hF => A5' (D7' hW hF) (A5' (BT' hF) (A5' (CX' hF) (A5' (CG' hF) (AP' (G7' F _ _ _)))))) (fun F hF => noL) fun F => ?_
  refine cv (XZ' W s m t (cut1 s coB) (cut2 s coB) (lowB (cut1 s coB)) (BY' (cut2 s coB) wsB) F) ⟨⟨?_, (AF' (vs' := [bv false]) (H' := [(0, rqO m t nilP nilB)]) [] rfl rfl (v0) ⟨⟨_, rfl, o0⟩, t0⟩).fits rfl⟩⟩
  simp only [Cnd.holds, A2', Nat.blt_eq, true_and, and_true]
  and_intros
  all_goals first
   | exact B8' (VW.cons w0 (VW.cons w0 (VW.cons (A1' g1) VW.nil)))
   | exact B8' (VW.cons w0 (VW.cons (A6' _) VW.nil))
   | exact A1' (by rw [C9']; exact decide_eq_false g2)
   | exact A1' (by rw [g3]; rfl)
   | exact A1' (by rw [g4]; rfl)
   | exact n0
   | exact hq
   | exact ha
   | exact hb
   | exact ha2
   | exact hb2
   | exact asc
   | exact CC'
   | (unfold Five; decide)
   | decide | (with_reducible first | exact t0 | exact r0 | exact A6' _ | assumption) | exact r0 | ((repeat (first | exact VW.nil | refine c1 ?_ | refine c2 ?_ | refine c3 ?_)); done)
 rw [if_neg g4]
 have g4 := eq_true_of_ne_false g4
 rw [if_neg (show ¬ (getP [] (lowB (cut1 s coB))).isSome = true from fun h => by cases h)]
 by_cases g6 : lowB (cut1 s coB) = teB
 ·rw [if_pos g6]
  show Tri _ _ _ _ _ (bv false) [(0, rqO m t nilP nilB)]
  refine AA' (con := [(fCut, cCut), (fAll, cAll), (BO', cLow), (D5', D6'), (fGet, HV' m t (lowB (cut1 s coB)))]) (hints := hHd (cut1 s coB) (cut2 s coB) (lowB (cut1 s coB)) (BY' (cut2 s coB) wsB) nil0 true false false false false false false true) (lc := []) [0, 1100, 1101, 1102] rfl (fun F hF => A5' (D7' hW hF) (A5' (BT' hF) (A5' (CX' hF) (A5' (CG' hF) (AP' (G7' F _ _ _)))))) (fun F hF => noL) fun F => ?_
  refine cv (XY' W s m t (cut1 s coB) (cut2 s coB) (lowB (cut1 s coB)) (BY' (cut2 s coB) wsB) F) ⟨⟨?_, (AF' (vs' := [bv false]) (H' := [(0, rqO m t nilP nilB)]) [] rfl rfl (v0) ⟨⟨_, rfl, o0⟩, t0⟩).fits rfl⟩⟩
  simp only [Cnd.holds, A2', Nat.blt_eq, true_and, and_true]
  and_intros
  all_goals first
   | exact B8' (VW.cons w0 (VW.cons w0 (VW.cons (A1' g1) VW.nil)))
   | exact B8' (VW.cons w0 (VW.cons (A6' _) VW.nil))
   | exact A1' (by rw [C9']; exact decide_eq_false g2)
   | exact A1' (by rw [g3]; rfl)
   | exact A1' (by rw [g4]; rfl)
   | exact A1' (by rw [NY']; exact decide_eq_true g6)
   | exact n0
   | exact hq
   | exact ha
   | exact hb
   | exact ha2
   | exact hb2
   | exact asc
   | exact CC'
   | (unfold Five; decide)
   | decide | (with_reducible first | exact t0 | exact r0 | exact A6' _ | assumption) | exact r0 | ((repeat (first | exact VW.nil | refine c1 ?_ | refine c2 ?_ | refine c3 ?_)); done)
 ·rw [if_neg g6]
  show Tri _ _ _ _ _ (bv true) [(0, rqO m t (sP 1000 1) nilB), (1000, rP [(lowB (cut1 s coB), BY' (cut2 s coB) wsB)])]
  refine AA' (con := [(fCut, cCut), (fAll, cAll), (BO', cLow), (D5', D6'), (fGet, HV' m t (lowB (cut1 s coB)))]) (hints := hHd (cut1 s coB) (cut2 s coB) (lowB (cut1 s coB)) (BY' (cut2 s coB) wsB) nil0 true false false false false false false false) (lc := []) [0, 1100, 1101, 1102] rfl (fun F hF => A5' (D7' hW hF) (A5' (BT' hF) (A5' (CX' hF) (A5' (CG' hF) (AP' (G7' F _ _ _)))))) (fun F hF => noL) fun F => ?_
  refine cv (XX' W s m t (cut1 s coB) (cut2 s coB) (lowB (cut1 s coB)) (BY' (cut2 s coB) wsB) F) ⟨⟨?_, (AF' (vs' := [bv true]) (H' := [(0, rqO m t (sP 1000 1) nilB), (1000, rP [(lowB (cut1 s coB), BY' (cut2 s coB) wsB)])]) [(1000, 1101)] rfl rfl (v0) ⟨⟨_, rfl, o0⟩, ⟨_, rfl, o0⟩, t0⟩).fits rfl⟩⟩
  simp only [Cnd.holds, A2', Nat.blt_eq, true_and, and_true]
  and_intros
  all_goals first
   | exact B8' (VW.cons w0 (VW.cons w0 (VW.cons (A1' g1) VW.nil)))
   | exact B8' (VW.cons w0 (VW.cons (A6' _) VW.nil))
   | exact A1' (by rw [C9']; exact decide_eq_false g2)
   | exact A1' (by rw [g3]; rfl)
   | exact A1' (by rw [g4]; rfl)
   | exact A1' (by rw [NY']; exact decide_eq_false g6)
   | exact n0
   | exact hq
   | exact ha
   | exact hb
   | exact ha2
   | exact hb2
   | exact asc
   | exact CC'
   | (unfold Five; decide)
   | decide | (with_reducible first | exact t0 | exact r0 | exact A6' _ | assumption) | exact r0 | ((repeat (first | exact VW.nil | refine c1 ?_ | refine c2 ?_ | refine c3 ?_)); done)
theorem LC' {W : World} (hW : LW W) (L : Hds) (hL : L.length ≤ 4000000) (s m t : ByteArray) (hs : s.size ≤ 8192) : Tri Tryz.prog W fHdr [sv s, .ptr 0 0] [(0, rqO m t (sP 1000 L.length) nilB), (1000, rP L)] (bv (hdrB L s).isSome) (hdRO L m t (hdrB L s)) := by
 have hq : s.size < 4294967281 := by omega
 have ha : (cut1 s coB).size ≤ 4000000 := Nat.le_trans (P4' s coB) (by omega)
 have hb : (cut2 s coB).size ≤ 4000000 := Nat.le_trans (L1' s coB) (by omega)
 have ha2 : (cut1 s coB).size ≤ 140737488355328 := by omega
 have hb2 : (cut2 s coB).size < 4294967281 := by omega
 unfold hdrB hdrW
 have k1 : (0 + L.length * 2).ble (rowV encP L).length = true := by rw [DC', Nat.ble_eq]; omega
 have k2 : (List.take (L.length * 2) (List.drop 0 (rowV encP L))).length.beq (L.length * 2) = true := by
  rw [List.drop_zero, List.take_of_length_le (by rw [DC']; exact n0), DC']; exact Nat.beq_refl _
 have b1 : ((L.length + 1) * 32).ble 140737488355328 = true := C6' (by omega)
 have b2 : (L.length + 1).ble 9223372036854775807 = true := C6' (by omega)
 have asc : qIn fQn (cut1 s coB) = true → IO' (cut1 s coB) := fun h => RO' _ h
 by_cases g1 : cutK s coB = false
 ·rw [if_pos g1]
  show Tri _ _ _ _ _ (bv false) [(0, rqO m t (sP 1000 L.length) nilB), (1000, rP L)]
  refine AA' (con := [(fCut, cCut), (fAll, cAll), (BO', cLow), (D5', D6')]) (hints := hHd (cut1 s coB) (cut2 s coB) (lowB (cut1 s coB)) (BY' (cut2 s coB) wsB) nil0 false true false false false true false false) (lc := []) [0, 1000, 1100, 1101, 1102] rfl (fun F hF => A5' (D7' hW hF) (A5' (BT' hF) (A5' (CX' hF) (AP' (CG' hF))))) (fun F hF => noL) fun F => ?_
  refine cv (Y9' W L s m t (cut1 s coB) (cut2 s coB) (lowB (cut1 s coB)) (BY' (cut2 s coB) wsB) nil0 F) ⟨⟨?_, (AF' (vs' := [bv false]) (H' := [(0, rqO m t (sP 1000 L.length) nilB), (1000, rP L)]) [(1000, 1000)] rfl rfl (v0) ⟨⟨_, rfl, o0⟩, ⟨_, rfl, BQ' (by first | rfl | rw [A2']) rfl⟩, t0⟩).fits rfl⟩⟩
  simp only [Cnd.holds, A2', Nat.blt_eq, true_and, and_true]
  and_intros
  all_goals first
   | exact B8' (VW.cons w0 (VW.cons w0 (VW.cons (A1' g1) VW.nil)))
   | exact B8' (VW.cons w0 (VW.cons (A6' _) VW.nil))
   | exact n0
   | exact hq
   | exact ha
   | exact hb
   | exact ha2
   | exact hb2
   | exact asc
   | exact CC'
   | (unfold Five; decide)
   | decide | (with_reducible first | exact t0 | exact r0 | exact A6' _ | assumption) | exact r0 | ((repeat (first | exact VW.nil | refine c1 ?_ | refine c2 ?_ | refine c3 ?_)); done)
 rw [if_neg g1]
 have g1 := eq_true_of_ne_false g1
 by_cases g2 : (cut1 s coB).size = 0
 ·rw [if_pos g2]
  show Tri _ _ _ _ _ (bv false) [(0, rqO m t (sP 1000 L.length) nilB), (1000, rP L)]
  refine AA' (con := [(fCut, cCut), (fAll, cAll), (BO', cLow), (D5', D6')]) (hints := hHd (cut1 s coB) (cut2 s coB) (lowB (cut1 s coB)) (BY' (cut2 s coB) wsB) nil0 true false true false false true false false) (lc := []) [0, 1000, 1100, 1101, 1102] rfl (fun F hF => A5' (D7' hW hF) (A5' (BT' hF) (A5' (CX' hF) (AP' (CG' hF))))) (fun F hF => noL) fun F => ?_
  refine cv (Y8' W L s m t (cut1 s coB) (cut2 s coB) (lowB (cut1 s coB)) (BY' (cut2 s coB) wsB) nil0 F) ⟨⟨?_, (AF' (vs' := [bv false]) (H' := [(0, rqO m t (sP 1000 L.length) nilB), (1000, rP L)]) [(1000, 1000)] rfl rfl (v0) ⟨⟨_, rfl, o0⟩, ⟨_, rfl, BQ' (by first | rfl | rw [A2']) rfl⟩, t0⟩).fits rfl⟩⟩
  simp only [Cnd.holds, A2', Nat.blt_eq, true_and, and_true]
  and_intros
  all_goals first
   | exact B8' (VW.cons w0 (VW.cons w0 (VW.cons (A1' g1) VW.nil)))
   | exact B8' (VW.cons w0 (VW.cons (A6' _) VW.nil))
   | exact A1' (by rw [C9']; exact decide_eq_true g2)
   | exact n0
   | exact hq
   | exact ha
   | exact hb
   | exact ha2
   | exact hb2
   | exact asc
   | exact CC'
   | (unfold Five; decide)
   | decide | (with_reducible first | exact t0 | exact r0 | exact A6' _ | assumption) | exact r0 | ((repeat (first | exact VW.nil | refine c1 ?_ | refine c2 ?_ | refine c3 ?_)); done)
 rw [if_neg g2]
 by_cases g3 : qIn fQn (cut1 s coB) = false
 ·rw [if_pos g3]
  show Tri _ _ _ _ _ (bv false) [(0, rqO m t (sP 1000 L.length) nilB), (1000, rP L)]
  refine AA' (con := [(fCut, cCut), (fAll, cAll), (BO', cLow), (D5', D6')]) (hints := hHd (cut1 s coB) (cut2 s coB) (lowB (cut1 s coB)) (BY' (cut2 s coB) wsB) nil0 true false false true false true false false) (lc := []) [0, 1000, 1100, 1101, 1102] rfl (fun F hF => A5' (D7' hW hF) (A5' (BT' hF) (A5' (CX' hF) (AP' (CG' hF))))) (fun F hF => noL) fun F => ?_
  refine cv (Y7' W L s m t (cut1 s coB) (cut2 s coB) (lowB (cut1 s coB)) (BY' (cut2 s coB) wsB) nil0 F) ⟨⟨?_, (AF' (vs' := [bv false]) (H' := [(0, rqO m t (sP 1000 L.length) nilB), (1000, rP L)]) [(1000, 1000)] rfl rfl (v0) ⟨⟨_, rfl, o0⟩, ⟨_, rfl, BQ' (by first | rfl | rw [A2']) rfl⟩, t0⟩).fits rfl⟩⟩
  simp only [Cnd.holds, A2', Nat.blt_eq, true_and, and_true]
  and_intros
  all_goals first
   | exact B8' (VW.cons w0 (VW.cons w0 (VW.cons (A1' g1) VW.nil)))
   | exact B8' (VW.cons w0 (VW.cons (A6' _) VW.nil))
   | exact A1' (by rw [C9']; exact decide_eq_false g2)
   | exact A1' (by rw [g3]; rfl)
   | exact n0
   | exact hq
   | exact ha
   | exact hb
   | exact ha2
   | exact hb2
   | exact asc
   | exact CC'
   | (unfold Five; decide)
   | decide | (with_reducible first | exact t0 | exact r0 | exact A6' _ | assumption) | exact r0 | ((repeat (first | exact VW.nil | refine c1 ?_ | refine c2 ?_ | refine c3 ?_)); done)
 rw [if_neg g3]
 have g3 := eq_true_of_ne_false g3
 have asc := asc g3
 by_cases g4 : qIn fQh (cut2 s coB) = false
 ·rw [if_pos g4]
  show Tri _ _ _ _ _ (bv false) [(0, rqO m t (sP 1000 L.length) nilB), (1000, rP L)]
  refine AA' (con := [(fCut, cCut), (fAll, cAll), (BO', cLow), (D5', D6')]) (hints := hHd (cut1 s coB) (cut2 s coB) (lowB (cut1 s coB)) (BY' (cut2 s coB) wsB) nil0 true false false false true true false false) (lc := []) [0, 1000, 1100, 1101, 1102] rfl (fun F hF => A5' (D7' hW hF) (A5' (BT' hF) (A5' (CX' hF) (AP' (CG' hF))))) (fun F hF => noL) fun F => ?_
  refine cv (Y6' W L s m t (cut1 s coB) (cut2 s coB) (lowB (cut1 s coB)) (BY' (cut2 s coB) wsB) nil0 F) ⟨⟨?_, (AF' (vs' := [bv false]) (H' := [(0, rqO m t (sP 1000 L.length) nilB), (1000, rP L)]) [(1000, 1000)] rfl rfl (v0) ⟨⟨_, rfl, o0⟩, ⟨_, rfl, BQ' (by first | rfl | rw [A2']) rfl⟩, t0⟩).fits rfl⟩⟩
  simp only [Cnd.holds, A2', Nat.blt_eq, true_and, and_true]
  and_intros
  all_goals first
   | exact B8' (VW.cons w0 (VW.cons w0 (VW.cons (A1' g1) VW.nil)))
   | exact B8' (VW.cons w0 (VW.cons (A6' _) VW.nil))
   | exact A1' (by rw [C9']; exact decide_eq_false g2)
   | exact A1' (by rw [g3]; rfl)
   | exact A1' (by rw [g4]; rfl)
   | exact n0
   | exact hq
   | exact ha
   | exact hb
   | exact ha2
   | exact hb2
   | exact asc
   | exact CC'
   | (unfold Five; decide)
   | decide | (with_reducible first | exact t0 | exact r0 | exact A6' _ | assumption) | exact r0 | ((repeat (first | exact VW.nil | refine c1 ?_ | refine c2 ?_ | refine c3 ?_)); done)
 rw [if_neg g4]
 have g4 := eq_true_of_ne_false g4
 cases g5 : getP L (lowB (cut1 s coB)) with
 | some gv =>
  have g5v : gotV (getP L (lowB (cut1 s coB))) = .tuple [sv gv, bv true] := by rw [g5]; rfl
  rw [if_pos (show (some gv).isSome = true from rfl)]
  show Tri _ _ _ _ _ (bv false) [(0, rqO m t (sP 1000 L.length) nilB), (1000, rP L)]
  refine AA' (con := [(fCut, cCut), (fAll, cAll), (BO', cLow), (D5', D6'), (fGet, cGet L m t (lowB (cut1 s coB)) gv true)]) (hints := hHd (cut1 s coB) (cut2 s coB) (lowB (cut1 s coB)) (BY' (cut2 s coB) wsB) gv true false false false false false true false) (lc := []) [0, 1000, 1100, 1101, 1102] rfl (fun F hF => A5' (D7' hW hF) (A5' (BT' hF) (A5' (CX' hF) (A5' (CG' hF) (AP' (G6' F _ _ _ _ _ _ hL g5v)))))) (fun F hF => noL) fun F => ?_
  refine cv (Y5' W L s m t (cut1 s coB) (cut2 s coB) (lowB (cut1 s coB)) (BY' (cut2 s coB) wsB) gv F) ⟨⟨?_, (AF' (vs' := [bv false]) (H' := [(0, rqO m t (sP 1000 L.length) nilB), (1000, rP L)]) [(1000, 1000)] rfl rfl (v0) ⟨⟨_, rfl, o0⟩, ⟨_, rfl, BQ' (by first | rfl | rw [A2']) rfl⟩, t0⟩).fits rfl⟩⟩
  simp only [Cnd.holds, A2', Nat.blt_eq, true_and, and_true]
  and_intros
  all_goals first
   | exact B8' (VW.cons w0 (VW.cons w0 (VW.cons (A1' g1) VW.nil)))
   | exact B8' (VW.cons w0 (VW.cons (A6' _) VW.nil))
   | exact A1' (by rw [C9']; exact decide_eq_false g2)
   | exact A1' (by rw [g3]; rfl)
   | exact A1' (by rw [g4]; rfl)
   | exact n0
   | exact hq
   | exact ha
   | exact hb
   | exact ha2
   | exact hb2
   | exact asc
   | exact CC'
   | (unfold Five; decide)
   | decide | (with_reducible first | exact t0 | exact r0 | exact A6' _ | assumption) | exact r0 | ((repeat (first | exact VW.nil | refine c1 ?_ | refine c2 ?_ | refine c3 ?_)); done)
 | none =>
  have g5v : gotV (getP L (lowB (cut1 s coB))) = .tuple [sv nil0, bv false] := by rw [g5]; rfl
  rw [if_neg (show ¬ (none : Option ByteArray).isSome = true from fun h => by cases h)]
  by_cases g6 : lowB (cut1 s coB) = teB
  ·rw [if_pos g6]
   show Tri _ _ _ _ _ (bv false) [(0, rqO m t (sP 1000 L.length) nilB), (1000, rP L)]
   refine AA' (con := [(fCut, cCut), (fAll, cAll), (BO', cLow), (D5', D6'), (fGet, cGet L m t (lowB (cut1 s coB)) nil0 false)]) (hints := hHd (cut1 s coB) (cut2 s coB) (lowB (cut1 s coB)) (BY' (cut2 s coB) wsB) nil0 true false false false false false false true) (lc := []) [0, 1000, 1100, 1101, 1102] rfl (fun F hF => A5' (D7' hW hF) (A5' (BT' hF) (A5' (CX' hF) (A5' (CG' hF) (AP' (G6' F _ _ _ _ _ _ hL g5v)))))) (fun F hF => noL) fun F => ?_
   refine cv (Y4' W L s m t (cut1 s coB) (cut2 s coB) (lowB (cut1 s coB)) (BY' (cut2 s coB) wsB) nil0 F) ⟨⟨?_, (AF' (vs' := [bv false]) (H' := [(0, rqO m t (sP 1000 L.length) nilB), (1000, rP L)]) [(1000, 1000)] rfl rfl (v0) ⟨⟨_, rfl, o0⟩, ⟨_, rfl, BQ' (by first | rfl | rw [A2']) rfl⟩, t0⟩).fits rfl⟩⟩
   simp only [Cnd.holds, A2', Nat.blt_eq, true_and, and_true]
   and_intros
   all_goals first
    | exact B8' (VW.cons w0 (VW.cons w0 (VW.cons (A1' g1) VW.nil)))
    | exact B8' (VW.cons w0 (VW.cons (A6' _) VW.nil))
    | exact A1' (by rw [C9']; exact decide_eq_false g2)
    | exact A1' (by rw [g3]; rfl)
    | exact A1' (by rw [g4]; rfl)
    | exact A1' (by rw [NY']; exact decide_eq_true g6)
    | exact n0
    | exact hq
    | exact ha
    | exact hb
    | exact ha2
    | exact hb2
    | exact asc
    | exact CC'
    | (unfold Five; decide)
    | decide | (with_reducible first | exact t0 | exact r0 | exact A6' _ | assumption) | exact r0 | ((repeat (first | exact VW.nil | refine c1 ?_ | refine c2 ?_ | refine c3 ?_)); done)
  ·rw [if_neg g6]
   show Tri _ _ _ _ _ (bv true) [(0, rqO m t (sP 1000 (L.length + 1)) nilB), (1000, rP (L ++ [(lowB (cut1 s coB), BY' (cut2 s coB) wsB)]))]
   refine AA' (con := [(fCut, cCut), (fAll, cAll), (BO', cLow), (D5', D6'), (fGet, cGet L m t (lowB (cut1 s coB)) nil0 false)]) (hints := hHd (cut1 s coB) (cut2 s coB) (lowB (cut1 s coB)) (BY' (cut2 s coB) wsB) nil0 true false false false false false false false) (lc := []) [0, 1000, 1100, 1101, 1102] rfl (fun F hF => A5' (D7' hW hF) (A5' (BT' hF) (A5' (CX' hF) (A5' (CG' hF) (AP' (G6' F _ _ _ _ _ _ hL g5v)))))) (fun F hF => noL) fun F => ?_
   refine cv (Y3' W L s m t (cut1 s coB) (cut2 s coB) (lowB (cut1 s coB)) (BY' (cut2 s coB) wsB) nil0 F) ⟨⟨?_, (AF' (vs' := [bv true]) (H' := [(0, rqO m t (sP 1000 (L.length + 1)) nilB), (1000, rP (L ++ [(lowB (cut1 s coB), BY' (cut2 s coB) wsB)]))]) [(1000, 1101)] rfl rfl (v0) ⟨⟨_, rfl, o0⟩, ⟨_, rfl, U8'⟩, t0⟩).fits rfl⟩⟩
   simp only [Cnd.holds, A2', k1, k2, b1, b2, Nat.blt_eq, true_and, and_true]
   and_intros
   all_goals first
    | exact B8' (VW.cons w0 (VW.cons w0 (VW.cons (A1' g1) VW.nil)))
    | exact B8' (VW.cons w0 (VW.cons (A6' _) VW.nil))
    | exact A1' (by rw [C9']; exact decide_eq_false g2)
    | exact A1' (by rw [g3]; rfl)
    | exact A1' (by rw [g4]; rfl)
    | exact A1' (by rw [NY']; exact decide_eq_false g6)
    | exact n0
    | exact hq
    | exact ha
    | exact hb
    | exact ha2
    | exact hb2
    | exact asc
    | exact CC'
    | (unfold Five; decide)
    | decide | (with_reducible first | exact t0 | exact r0 | exact A6' _ | assumption) | exact r0 | ((repeat (first | exact VW.nil | refine c1 ?_ | refine c2 ?_ | refine c3 ?_)); done)
def lenV (r : Option Nat) : AV := match r with
 | some n => .tuple [iv (Int.ofNat n), bv true]
 | none => .tuple [iv (Int.ofNat 0), bv false]
theorem R9' {W : World} (m t : ByteArray) : Tri Tryz.prog W fLen [rqV m t nilP nilB] [] (.tuple [iv (Int.ofNat 0), bv true]) [] := by
 have hv4 : (0 : Nat) ≤ 0 := n0
 ·show Tri _ _ _ _ _ (.tuple [iv (Int.ofNat 0), bv true]) []
  refine AA' (con := [(fGet, HV' m t clB)]) (hints := hLe nil0 false true false false false false) (lc := []) [] rfl (fun F hF => AP' (G7' F _ _ _)) (fun F hF => noL) fun F => ?_
  refine cv (eR' W m t F) ⟨⟨?_, (AF' (vs' := [.tuple [iv (Int.ofNat 0), bv true]]) (H' := []) [] rfl rfl (v0) trivial).fits rfl⟩⟩
  simp only [Cnd.holds, A2', Nat.blt_eq, true_and, and_true]
  and_intros
  all_goals first
   | exact B8' (VW.cons w0 (VW.cons (A6' _) VW.nil))
   | exact hv4
   | (unfold Five; decide) | (with_reducible first | exact t0 | exact r0 | exact A6' _ | assumption) | exact r0 | ((repeat (first | exact VW.nil | refine c1 ?_ | refine c2 ?_ | refine c3 ?_)); done)
theorem TO' {W : World} (L : Hds) (hL : L.length ≤ 4000000) (m t : ByteArray) : Tri Tryz.prog W fLen [rqV m t (sP 0 L.length) nilB] [(0, rP L)] (lenV (lenB L)) [(0, rP L)] := by
 unfold lenB
 cases g : getP L clB with
 | none =>
  have gv : gotV (getP L clB) = .tuple [sv nil0, bv false] := by rw [g]; rfl
  have hv4 : (0 : Nat) ≤ 0 := n0
  show Tri _ _ _ _ _ (.tuple [iv (Int.ofNat 0), bv true]) [(0, rP L)]
  refine AA' (con := [(fGet, cGet L m t clB nil0 false), (fAll, cAll)]) (hints := hLe nil0 false true false false false false) (lc := []) [0] rfl (fun F hF => A5' (G6' F _ _ _ _ _ _ hL gv) (AP' (BT' hF))) (fun F hF => noL) fun F => ?_
  refine cv (eQ' W L m t nil0 F) ⟨⟨?_, (AF' (vs' := [.tuple [iv (Int.ofNat 0), bv true]]) (H' := [(0, rP L)]) [] rfl rfl (v0) ⟨⟨_, rfl, BQ' (by first | rfl | rw [A2']) rfl⟩, t0⟩).fits rfl⟩⟩
  simp only [Cnd.holds, A2', Nat.blt_eq, true_and, and_true]
  and_intros
  all_goals first
   | exact B8' (VW.cons w0 (VW.cons (A6' _) VW.nil))
   | exact hv4
   | (unfold Five; decide) | (with_reducible first | exact t0 | exact r0 | exact A6' _ | assumption) | exact r0 | ((repeat (first | exact VW.nil | refine c1 ?_ | refine c2 ?_ | refine c3 ?_)); done)
 | some v =>
  have gv : gotV (getP L clB) = .tuple [sv v, bv true] := by rw [g]; rfl
  simp only
  by_cases g1 : v.size = 0
  ·rw [if_pos g1]
   have hv4 : v.size ≤ 4000000 := by omega
   show Tri _ _ _ _ _ (.tuple [iv (Int.ofNat 0), bv false]) [(0, rP L)]
   refine AA' (con := [(fGet, cGet L m t clB v true), (fAll, cAll)]) (hints := hLe v true false true false false true) (lc := []) [0] rfl (fun F hF => A5' (G6' F _ _ _ _ _ _ hL gv) (AP' (BT' hF))) (fun F hF => noL) fun F => ?_
   refine cv (eP' W L m t v F) ⟨⟨?_, (AF' (vs' := [.tuple [iv (Int.ofNat 0), bv false]]) (H' := [(0, rP L)]) [] rfl rfl (v0) ⟨⟨_, rfl, BQ' (by first | rfl | rw [A2']) rfl⟩, t0⟩).fits rfl⟩⟩
   simp only [Cnd.holds, A2', Nat.blt_eq, true_and, and_true]
   and_intros
   all_goals first
    | exact B8' (VW.cons w0 (VW.cons (A6' _) VW.nil))
    | exact A1' (by rw [C9']; exact decide_eq_true g1)
    | exact hv4
    | (unfold Five; decide) | (with_reducible first | exact t0 | exact r0 | exact A6' _ | assumption) | exact r0 | ((repeat (first | exact VW.nil | refine c1 ?_ | refine c2 ?_ | refine c3 ?_)); done)
  rw [if_neg g1]
  by_cases g2 : 9 < v.size
  ·rw [if_pos g2]
   by_cases hv4 : v.size ≤ 4000000
   ·show Tri _ _ _ _ _ (.tuple [iv (Int.ofNat 0), bv false]) [(0, rP L)]
    refine AA' (con := [(fGet, cGet L m t clB v true), (fAll, cAll)]) (hints := hLe v true false false true false true) (lc := []) [0] rfl (fun F hF => A5' (G6' F _ _ _ _ _ _ hL gv) (AP' (BT' hF))) (fun F hF => noL) fun F => ?_
    refine cv (UH' W L m t v F) ⟨⟨?_, (AF' (vs' := [.tuple [iv (Int.ofNat 0), bv false]]) (H' := [(0, rP L)]) [] rfl rfl (v0) ⟨⟨_, rfl, BQ' (by first | rfl | rw [A2']) rfl⟩, t0⟩).fits rfl⟩⟩
    simp only [Cnd.holds, A2', Nat.blt_eq, true_and, and_true]
    and_intros
    all_goals first
     | exact B8' (VW.cons w0 (VW.cons (A6' _) VW.nil))
     | exact A1' (by rw [C9']; exact decide_eq_false g1)
     | exact A1' (decide_eq_true (by simp only [Z0, Z1]; omega))
     | exact hv4
     | (unfold Five; decide) | (with_reducible first | exact t0 | exact r0 | exact A6' _ | assumption) | exact r0 | ((repeat (first | exact VW.nil | refine c1 ?_ | refine c2 ?_ | refine c3 ?_)); done)
   ·show Tri _ _ _ _ _ (.tuple [iv (Int.ofNat 0), bv false]) [(0, rP L)]
    refine AA' (con := [(fGet, cGet L m t clB v true), (fAll, cAll)]) (hints := hLe v true false false true false true) (lc := []) [0] rfl (fun F hF => A5' (G6' F _ _ _ _ _ _ hL gv) (AP' (BT' hF))) (fun F hF => noL) fun F => ?_
    refine cv (UH' W L m t v F) ⟨⟨?_, (AF' (vs' := [.tuple [iv (Int.ofNat 0), bv false]]) (H' := [(0, rP L)]) [] rfl rfl (v0) ⟨⟨_, rfl, BQ' (by first | rfl | rw [A2']) rfl⟩, t0⟩).fits rfl⟩⟩
    simp only [Cnd.holds, A2', Nat.blt_eq, true_and, and_true]
    and_intros
    all_goals first
     | exact B8' (VW.cons w0 (VW.cons (A6' _) VW.nil))
     | exact A1' (by rw [C9']; exact decide_eq_false g1)
     | exact A1' (decide_eq_true (by simp only [Z0, Z1]; omega))
     | (unfold Five; decide) | (with_reducible first | exact t0 | exact r0 | exact A6' _ | assumption) | exact r0 | ((repeat (first | exact VW.nil | refine c1 ?_ | refine c2 ?_ | refine c3 ?_)); done)
  rw [if_neg g2]
  have hv4 : v.size ≤ 4000000 := by omega
  by_cases g3 : qIn fQd v = false
  ·rw [if_pos g3]
   show Tri _ _ _ _ _ (.tuple [iv (Int.ofNat 0), bv false]) [(0, rP L)]
   refine AA' (con := [(fGet, cGet L m t clB v true), (fAll, cAll)]) (hints := hLe v true false false false true true) (lc := []) [0] rfl (fun F hF => A5' (G6' F _ _ _ _ _ _ hL gv) (AP' (BT' hF))) (fun F hF => noL) fun F => ?_
   refine cv (eO' W L m t v F) ⟨⟨?_, (AF' (vs' := [.tuple [iv (Int.ofNat 0), bv false]]) (H' := [(0, rP L)]) [] rfl rfl (v0) ⟨⟨_, rfl, BQ' (by first | rfl | rw [A2']) rfl⟩, t0⟩).fits rfl⟩⟩
   simp only [Cnd.holds, A2', Nat.blt_eq, true_and, and_true]
   and_intros
   all_goals first
    | exact B8' (VW.cons w0 (VW.cons (A6' _) VW.nil))
    | exact A1' (by rw [C9']; exact decide_eq_false g1)
    | exact A1' (decide_eq_false (by simp only [Z0, Z1]; omega))
    | exact A1' (by rw [g3]; rfl)
    | exact hv4
    | (unfold Five; decide) | (with_reducible first | exact t0 | exact r0 | exact A6' _ | assumption) | exact r0 | ((repeat (first | exact VW.nil | refine c1 ?_ | refine c2 ?_ | refine c3 ?_)); done)
  ·rw [if_neg g3]
   have g3 := eq_true_of_ne_false g3
   have hat : Lib.atoiAll v.data.toList = .ok (Int.ofNat (LK' v)) := (SI' v g1 (by omega) g3).1
   show Tri _ _ _ _ _ (.tuple [iv (Int.ofNat (LK' v)), bv true]) [(0, rP L)]
   refine AA' (con := [(fGet, cGet L m t clB v true), (fAll, cAll), (h7', i4' v (Int.ofNat (LK' v)))]) (hints := hLe v true false false false false false) (lc := []) [0] rfl (fun F hF => A5' (G6' F _ _ _ _ _ _ hL gv) (A5' (BT' hF) (AP' (ZX' hF _ hv4 _ hat)))) (fun F hF => noL) fun F => ?_
   refine cv (eN' W L m t v (Int.ofNat (LK' v)) F) ⟨⟨?_, (AF' (vs' := [.tuple [iv (Int.ofNat (LK' v)), bv true]]) (H' := [(0, rP L)]) [] rfl rfl (v0) ⟨⟨_, rfl, BQ' (by first | rfl | rw [A2']) rfl⟩, t0⟩).fits rfl⟩⟩
   simp only [Cnd.holds, A2', Nat.blt_eq, true_and, and_true]
   and_intros
   all_goals first
    | exact B8' (VW.cons w0 (VW.cons (A6' _) VW.nil))
    | exact A1' (by rw [C9']; exact decide_eq_false g1)
    | exact A1' (decide_eq_false (by simp only [Z0, Z1]; omega))
    | exact A1' (by rw [g3]; rfl)
    | exact hv4
    | (unfold Five; decide) | (with_reducible first | exact t0 | exact r0 | exact A6' _ | assumption) | exact r0 | ((repeat (first | exact VW.nil | refine c1 ?_ | refine c2 ?_ | refine c3 ?_)); done)
theorem OU' : ∀ args, RO (gP1 args) := by
 intro args
 unfold gP1
 split
 ·exact RO.ret _
 ·exact RO.fail _
theorem S6' : ∀ args, RO (gP2 args) := by
 intro args
 unfold gP2
 split
 ·exact RO.ret _
 ·exact RO.fail _
theorem gLr_ro : ∀ args, RO (gLr args) := by
 intro args
 unfold gLr
 split
 ·exact RO.ret _
 ·exact RO.fail _
theorem gPr_ro : ∀ args, RO (gPr args) := by
 intro args
 unfold gPr
 split
 ·refine RO.read _ _ fun o => ?_
  split
  ·exact RO.ret _
  ·exact RO.fail _
 ·exact RO.fail _
theorem b2' : ∀ args, RO (gHr args) := by
 intro args
 unfold gHr
 split
 ·refine RO.read _ _ fun o => ?_
  split
  ·exact RO.ret _
  ·exact RO.fail _
 ·exact RO.fail _
theorem VC' : ∀ args, RO (gNl args) := by
 intro args
 unfold gNl
 split
 ·refine RO.read _ _ fun o => ?_
  split
  ·exact RO.ret _
  ·exact RO.fail _
 ·exact RO.fail _
section
variable {W : World} {F : HP} (hW : LW W) (hF : AE' W F)
include hW hF
theorem i1' {m t s k v : ByteArray} (hs : s.size ≤ 8192) (h : hdrB [] s = some (k, v)) : C1OK Tryz.prog F fHdr (cHdZ m t s k v) :=
 BK' hF (fun _ => bv true) S6' (fun _ => rfl) (fun _ _ => by have := LB' hW s m t hs; rw [h] at this; exact this) fun _ => ⟨rfl, rfl, ⟨t0, rfl, t0⟩, A0' ⟨t0, t0, t0, t0, t0⟩ A3', ⟨t0, t0⟩, A0' ⟨t0, t0, rfl, t0, t0⟩ (A0' (BN' _ _) A3')⟩
theorem ZT' {m t s : ByteArray} (hs : s.size ≤ 8192) (h : hdrB [] s = none) : C1OK Tryz.prog F fHdr (i0' m t s) :=
 BK' hF (fun _ => bv false) S6' (fun _ => rfl) (fun _ _ => by have := LB' hW s m t hs; rw [h] at this; exact this) fun _ => ⟨rfl, rfl, ⟨t0, rfl, t0⟩, A0' ⟨t0, t0, t0, t0, t0⟩ A3', ⟨t0, t0⟩, A0' ⟨t0, t0, t0, t0, t0⟩ A3'⟩
theorem i2' {L : Hds} {m t s : ByteArray} {p : ByteArray × ByteArray} (hs : s.size ≤ 8192) (hL : L.length ≤ 4000000) (h : hdrB L s = some p) : C1OK Tryz.prog F fHdr (cHdR L (L ++ [p]) m t s true) :=
 BK' hF (fun _ => bv true) b2' (fun _ => rfl) (fun _ _ => by
  have := LC' hW L hL s m t hs
  rw [h] at this
  simp only [RT.pick, List.length_append, List.length_singleton]
  exact this) fun _ => ⟨rfl, rfl, ⟨t0, rfl, t0⟩, A0' ⟨t0, t0, rfl, t0, t0⟩ (A0' (BN' _ _) A3'), ⟨t0, t0⟩, A0' ⟨t0, t0, rfl, t0, t0⟩ (A0' (BN' _ _) A3')⟩
theorem ZU' {L : Hds} {m t s : ByteArray} (hs : s.size ≤ 8192) (hL : L.length ≤ 4000000) (h : hdrB L s = none) : C1OK Tryz.prog F fHdr (cHdR L L m t s false) :=
 BK' hF (fun _ => bv false) b2' (fun _ => rfl) (fun _ _ => by have := LC' hW L hL s m t hs; rw [h] at this; exact this) fun _ => ⟨rfl, rfl, ⟨t0, rfl, t0⟩, A0' ⟨t0, t0, rfl, t0, t0⟩ (A0' (BN' _ _) A3'), ⟨t0, t0⟩, A0' ⟨t0, t0, rfl, t0, t0⟩ (A0' (BN' _ _) A3')⟩
theorem E6' {s m t : ByteArray} (hs : s.size ≤ 8192) (h : lnB s = some (m, t)) : C1OK Tryz.prog F CU' (hY' s m t true) :=
 BK' hF (fun _ => bv true) S6' (fun _ => rfl) (fun _ _ => by have := ST' hW s hs; rw [h] at this; exact this) fun _ => ⟨rfl, rfl, ⟨t0, rfl, t0⟩, A0' ⟨t0, t0, t0, t0, t0⟩ A3', ⟨t0, t0⟩, A0' ⟨t0, t0, t0, t0, t0⟩ A3'⟩
theorem P9' {s : ByteArray} (hs : s.size ≤ 8192) (h : lnB s = none) : C1OK Tryz.prog F CU' (hY' s nil0 nil0 false) :=
 BK' hF (fun _ => bv false) S6' (fun _ => rfl) (fun _ _ => by have := ST' hW s hs; rw [h] at this; exact this) fun _ => ⟨rfl, rfl, ⟨t0, rfl, t0⟩, A0' ⟨t0, t0, t0, t0, t0⟩ A3', ⟨t0, t0⟩, A0' ⟨t0, t0, t0, t0, t0⟩ A3'⟩
theorem CJ' {P w : List UInt8} {off : Nat} (hw : P.drop off = w) (hl : w.length ≤ 4000000) {z : Int} (hz : DP' w = z) : C1OK Tryz.prog F DE' (PA' P off w.length z) :=
 BK' hF (fun _ => iv z) gPr_ro (fun _ => rfl) (fun _ _ => by rw [← hz]; exact aD' hW P w off hw hl) fun _ => ⟨rfl, rfl, ⟨rfl, t0⟩, A0' ⟨rfl, t0⟩ (A0' (AM' _ _) A3'), ⟨t0, t0⟩, A0' ⟨rfl, t0⟩ (A0' (AM' _ _) A3')⟩
omit hW hF in
theorem VX' : C1OK Tryz.prog F DE' VY' :=
 BK' (AE'.nothing F) (fun _ => iv 3) OU' (fun _ => rfl) (fun _ _ => WW') fun _ => ⟨rfl, rfl, ⟨rfl, t0⟩, A0' ⟨t0, t0⟩ A3', ⟨t0, t0⟩, A0' ⟨t0, t0⟩ A3'⟩
omit hW in
theorem L4' {L : Hds} {m t : ByteArray} {z : Int} {b : Bool} (hL : L.length ≤ 4000000) (h : lenV (lenB L) = .tuple [iv z, bv b]) : C1OK Tryz.prog F fLen (cLen L m t z b) :=
 BK' hF (fun _ => .tuple [iv z, bv b]) gLr_ro (fun _ => rfl) (fun _ _ => by rw [← h]; exact TO' L hL m t) fun _ => ⟨rfl, rfl, ⟨⟨t0, t0, rfl, t0, t0⟩, t0⟩, A0' (BN' _ _) A3', ⟨⟨t0, t0, t0⟩, t0⟩, A0' (BN' _ _) A3'⟩
omit hW in
theorem ZP' {m t : ByteArray} : C1OK Tryz.prog F fLen (hZ' m t) :=
 BK' hF (fun _ => .tuple [iv (Int.ofNat 0), bv true]) (fun _ => RO.ret _) (fun _ => rfl) (fun _ _ => R9' m t) fun _ => ⟨rfl, rfl, ⟨⟨t0, t0, t0, t0, t0⟩, t0⟩, A3', ⟨⟨t0, t0, t0⟩, t0⟩, A3'⟩
end
def nlH (P : List UInt8) (off len : Nat) (M : List ByteArray) (m t : ByteArray) (L : Hds) : LH := match L with
 | [] => [(0, rqO m t nilP nilB), (1, rS M), (2, pO 3 off len), (3, rB1 P)]
 | x :: r => [(0, rqO m t (sP 1000 (x :: r).length) nilB), (1, rS M), (2, pO 3 off len), (3, rB1 P), (1000, rP (x :: r))]
theorem aV' (P : List UInt8) (off len : Nat) (M : List ByteArray) (m t : ByteArray) (L : Hds) : AT' 1100 (nlH P off len M m t L) = true := by cases L <;> rfl
theorem YW' (P : List UInt8) (off len : Nat) (M : List ByteArray) (m t : ByteArray) (L : Hds) (p : ByteArray × ByteArray) : nlH P off len M m t (L ++ [p]) = [(0, rqO m t (sP 1000 (L ++ [p]).length) nilB), (1, rS M), (2, pO 3 off len), (3, rB1 P), (1000, rP (L ++ [p]))] := by cases L <;> rfl
def zNl : List (Nat × AV) := [(2, .ptr 0 0), (3, bv false), (4, iv (Int.ofNat 400))]
theorem S0' {W : World} (hW : LW W) (P : List UInt8) (off len : Nat) {M ls : List ByteArray} {l0 : ByteArray} (hM : M = l0 :: ls) (hls : ∀ x ∈ ls, x.size ≤ 8192) (hn : ls.length ≤ 100000) (m t : ByteArray) (n : Nat) (L : Hds) (hL : L.length ≤ 100000) (i : Nat) (hi : i < ls.length) :
  ∃ con hints, (∀ F, AE' W F → ∀ x ∈ con, C1OK Tryz.prog F x.1 x.2) ∧
   ((∃ p, hdrB L (ls.getD i nil0) = some p ∧ ∀ F, VAll (fun r os _ => r.2.2 = 113 ∧ r.1 = .normal ∧ ∃ l, FitT kNl iNl r.2.1 os (aNl n ls.length (i + 1)) (nlH P off len M m t (L ++ [p])) l) (AV' con hints [] W AK' (A4' AK' 11) (tms 0 113 (aNl n ls.length i)) (nlH P off len M m t L) kNl iNl F)) ∨
    (hdrB L (ls.getD i nil0) = none ∧ ∀ F, VAll (fun r os _ => r.2.2 = 113 ∧ r.1 = .ret ∧ ∃ l, FitT kNl iNl r.2.1 os zNl [(0, rqO nil0 nil0 nilP nilB), (2, pO 3 off len), (3, rB1 P)] l) (AV' con hints [] W AK' (A4' AK' 11) (tms 0 113 (aNl n ls.length i)) (nlH P off len M m t L) kNl iNl F))) := by
 have hw := AO' i (by omega)
 have e1 := ltTN hi
 have g1 : ∀ d, (rowV encS M).getD (1 + i * 1) d = sv (ls.getD i nil0) := fun d => by
  have := aO' M (1 + i) (by rw [hM, List.length_cons]; omega) d
  rw [Nat.zero_add, Nat.mul_one] at this
  rw [Nat.mul_one, this, hM, Nat.add_comm, List.getD_cons_succ]
 have g2 : (1 + i * 1).blt (rowV encS M).length = true := by rw [C5', Nat.blt_eq, hM, List.length_cons]; omega
 have g3 : i.blt ls.length = true := by rw [Nat.blt_eq]; exact hi
 have hs : (ls.getD i nil0).size ≤ 8192 := hls _ (N3' hi)
 generalize ls.getD i nil0 = s at *
 cases L with
 | nil =>
  cases h : hdrB [] s with
  | some p =>
   obtain ⟨k, v⟩ := p
   refine ⟨[(fHdr, cHdZ m t s k v)], hNl s i false, fun F hF => AP' (i1' hW hF hs h), .inl ⟨_, rfl, fun F => ?_⟩⟩
   refine cv (e8' W P off len M m t s k v n ls.length i F) ⟨⟨?_, rfl, rfl, [(1000, 1100)], by kernel_rfl, by kernel_rfl, ⟨w0, w0, w0, w0, w0, w0, t0⟩, ⟨_, rfl, o0⟩, ⟨_, rfl, IY' rfl rfl⟩, ⟨_, rfl, E9' rfl rfl⟩, ⟨_, rfl, AJ' rfl rfl⟩, ⟨_, rfl, BQ' rfl rfl⟩, t0⟩⟩
   simp only [Cnd.holds, e1, g1, g2, g3, sv, AV.strOf, Nat.blt_eq, true_and, and_true]
   and_intros
   all_goals first
    | (with_reducible exact AG' hw) | (with_reducible first | exact t0 | exact r0 | exact A6' _ | assumption) | exact r0 | ((repeat (first | exact VW.nil | refine c1 ?_ | refine c2 ?_ | refine c3 ?_)); done)
  | none =>
   refine ⟨[(fHdr, i0' m t s)], hNl s i true, fun F hF => AP' (ZT' hW hF hs h), .inr ⟨rfl, fun F => ?_⟩⟩
   refine cv (XT' W P off len M m t s n ls.length i F) ⟨⟨?_, rfl, rfl, [], by kernel_rfl, by kernel_rfl, ⟨w0, w0, w0, t0⟩, ⟨_, rfl, o0⟩, ⟨_, rfl, E9' rfl rfl⟩, ⟨_, rfl, AJ' rfl rfl⟩, t0⟩⟩
   simp only [Cnd.holds, e1, g1, g2, g3, sv, AV.strOf, Nat.blt_eq, true_and, and_true]
   and_intros
   all_goals first
    | (with_reducible exact AG' hw) | (with_reducible first | exact t0 | exact r0 | exact A6' _ | assumption) | exact r0 | ((repeat (first | exact VW.nil | refine c1 ?_ | refine c2 ?_ | refine c3 ?_)); done)
 | cons x r =>
  have hq : nlH P off len M m t (x :: r) = [(0, rqO m t (sP 1000 (x :: r).length) nilB), (1, rS M), (2, pO 3 off len), (3, rB1 P), (1000, rP (x :: r))] := rfl
  rw [hq]
  have hsn := YW' P off len M m t (x :: r)
  generalize x :: r = L at *
  cases h : hdrB L s with
  | some p =>
   refine ⟨[(fHdr, cHdR L (L ++ [p]) m t s true)], hNl s i false, fun F hF => AP' (i2' hW hF hs (by omega) h), .inl ⟨p, rfl, fun F => ?_⟩⟩
   rw [hsn p]
   refine cv (e9' W P off len M L (L ++ [p]) m t s n ls.length i F) ⟨⟨?_, rfl, rfl, [(1000, 1100)], by kernel_rfl, by kernel_rfl, ⟨w0, w0, w0, w0, w0, w0, t0⟩, ⟨_, rfl, o0⟩, ⟨_, rfl, IY' rfl rfl⟩, ⟨_, rfl, E9' rfl rfl⟩, ⟨_, rfl, AJ' rfl rfl⟩, ⟨_, rfl, BQ' (by rw [A2']) rfl⟩, t0⟩⟩
   simp only [Cnd.holds, e1, g1, g2, g3, sv, AV.strOf, A2', Nat.blt_eq, true_and, and_true]
   and_intros
   all_goals first
    | (with_reducible exact AG' hw) | (with_reducible first | exact t0 | exact r0 | exact A6' _ | assumption) | exact r0 | ((repeat (first | exact VW.nil | refine c1 ?_ | refine c2 ?_ | refine c3 ?_)); done)
  | none =>
   refine ⟨[(fHdr, cHdR L L m t s false)], hNl s i true, fun F hF => AP' (ZU' hW hF hs (by omega) h), .inr ⟨rfl, fun F => ?_⟩⟩
   refine cv (XV' W P off len M L m t s n ls.length i F) ⟨⟨?_, rfl, rfl, [], by kernel_rfl, by kernel_rfl, ⟨w0, w0, w0, t0⟩, ⟨_, rfl, o0⟩, ⟨_, rfl, E9' rfl rfl⟩, ⟨_, rfl, AJ' rfl rfl⟩, t0⟩⟩
   simp only [Cnd.holds, e1, g1, g2, g3, sv, AV.strOf, A2', Nat.blt_eq, true_and, and_true]
   and_intros
   all_goals first
    | (with_reducible exact AG' hw) | (with_reducible first | exact t0 | exact r0 | exact A6' _ | assumption) | exact r0 | ((repeat (first | exact VW.nil | refine c1 ?_ | refine c2 ?_ | refine c3 ?_)); done)
theorem N8' {ls : List ByteArray} {i : Nat} (h : i < ls.length) : ls.drop i = ls.getD i nil0 :: ls.drop (i + 1) := by
 rw [List.drop_eq_getElem_cons h]
 simp [List.getD_eq_getElem?_getD, List.getElem?_eq_getElem h]
section
variable {W : World} (hW : LW W) (P : List UInt8) (off len : Nat) {M ls : List ByteArray} {l0 : ByteArray} (hM : M = l0 :: ls) (hls : ∀ x ∈ ls, x.size ≤ 8192) (hn : ls.length ≤ 100000) (m t : ByteArray) (n : Nat)
include hW hM hls hn
theorem nl_yes {L : Hds} (h : C7' [] ls = some L) (hne : L ≠ []) : LTri Tryz.prog W (A4' AK' 11) (tms 0 113 (aNl n ls.length 0)) [(0, rqO m t nilP nilB), (1, rS M), (2, pO 3 off len), (3, rB1 P)] (.exit 1) (tms 0 113 [(0, .ptr 2 0), (2, .ptr 0 0), (5, iv (Int.ofNat n))]) [(0, rqO m t (sP 1000 L.length) nilB), (2, pO 3 off len), (3, rB1 P), (1000, rP L)] := by
 refine AS' (W := W) (g := AK') (b := A4' AK' 11) (σ := {q : Hds × Nat // q.2 ≤ ls.length ∧ q.1.length = q.2 ∧ C7' q.1 (ls.drop q.2) = some L}) 113 (fun q => aNl n ls.length q.1.2) (fun q => nlH P off len M m t q.1.1) (.exit 1) [(0, .ptr 2 0), (2, .ptr 0 0), (5, iv (Int.ofNat n))] [(0, rqO m t (sP 1000 L.length) nilB), (2, pO 3 off len), (3, rB1 P), (1000, rP L)] (fun q => ls.length - q.1.2) kNl iNl (by intro h; cases h) (fun _ => aV' _ _ _ _ _ _ _) rfl ?_ ⟨([], 0), Nat.zero_le _, rfl, h⟩
 rintro ⟨⟨L1, i⟩, hi, hL, hI⟩
 simp only at hi hL hI
 simp only
 by_cases h1 : i < ls.length
 ·obtain ⟨con, hints, hcon, hr⟩ := S0' hW P off len hM hls hn m t n L1 (by omega) i h1
  rw [N8' h1] at hI
  rcases hr with ⟨p, hp, hf⟩ | ⟨hp, hf⟩
  ·refine ⟨con, hints, [], hcon, fun _ _ => noL, fun F => VAll.mono (hf F) ?_⟩
   rintro r os m ⟨q1, q2, l, q3⟩
   refine ⟨q1, .inl ⟨q2, ⟨(L1 ++ [p], i + 1), h1, by simp [hL], ?_⟩, by show ls.length - (i + 1) < ls.length - i; omega, l, q3⟩⟩
   unfold C7' at hI
   rw [hp] at hI
   exact hI
  ·exfalso
   unfold C7' at hI
   rw [hp] at hI
   cases hI
 ·have hie : i = ls.length := by omega
  subst hie
  rw [List.drop_length] at hI
  have hI : L1 = L := Option.some.inj hI
  subst hI
  cases L1 with
  | nil => exact absurd rfl hne
  | cons x r =>
   refine ⟨[], AB' [(AK', 11, 0, hv (.lit false))], [], fun _ _ => noC, fun _ _ => noL, fun F => ?_⟩
   refine cv (XW' W P off len M (x :: r) m t n ls.length F) ⟨⟨?_, rfl, .inr ⟨rfl, [(1000, 1000)], by kernel_rfl, by kernel_rfl, ⟨w0, w0, w0, t0⟩, ⟨_, rfl, o0⟩, ⟨_, rfl, E9' rfl rfl⟩, ⟨_, rfl, AJ' rfl rfl⟩, ⟨_, rfl, BQ' rfl rfl⟩, t0⟩⟩⟩
   simp only [Cnd.holds, and_true]
   exact A1' (ltFN (n0))
theorem nl_no (h : C7' [] ls = none) : LTri Tryz.prog W (A4' AK' 11) (tms 0 113 (aNl n ls.length 0)) [(0, rqO m t nilP nilB), (1, rS M), (2, pO 3 off len), (3, rB1 P)] .ret (tms 0 113 zNl) [(0, rqO nil0 nil0 nilP nilB), (2, pO 3 off len), (3, rB1 P)] := by
 refine AS' (W := W) (g := AK') (b := A4' AK' 11) (σ := {q : Hds × Nat // q.2 ≤ ls.length ∧ q.1.length = q.2 ∧ C7' q.1 (ls.drop q.2) = none}) 113 (fun q => aNl n ls.length q.1.2) (fun q => nlH P off len M m t q.1.1) .ret zNl [(0, rqO nil0 nil0 nilP nilB), (2, pO 3 off len), (3, rB1 P)] (fun q => ls.length - q.1.2) kNl iNl (by intro h; cases h) (fun _ => aV' _ _ _ _ _ _ _) rfl ?_ ⟨([], 0), Nat.zero_le _, rfl, h⟩
 rintro ⟨⟨L1, i⟩, hi, hL, hI⟩
 simp only at hi hL hI
 simp only
 by_cases h1 : i < ls.length
 ·obtain ⟨con, hints, hcon, hr⟩ := S0' hW P off len hM hls hn m t n L1 (by omega) i h1
  rw [N8' h1] at hI
  rcases hr with ⟨p, hp, hf⟩ | ⟨hp, hf⟩
  ·refine ⟨con, hints, [], hcon, fun _ _ => noL, fun F => VAll.mono (hf F) ?_⟩
   rintro r os m ⟨q1, q2, l, q3⟩
   refine ⟨q1, .inl ⟨q2, ⟨(L1 ++ [p], i + 1), h1, by simp [hL], ?_⟩, by show ls.length - (i + 1) < ls.length - i; omega, l, q3⟩⟩
   unfold C7' at hI
   rw [hp] at hI
   exact hI
  ·refine ⟨con, hints, [], hcon, fun _ _ => noL, fun F => VAll.mono (hf F) ?_⟩
   rintro r os m ⟨q1, q2, l, q3⟩
   exact ⟨q1, .inr ⟨q2, l, q3⟩⟩
 ·have hie : i = ls.length := by omega
  subst hie
  rw [List.drop_length] at hI
  cases hI
end
theorem gK' {W : World} (P : List UInt8) (off len : Nat) (M : List ByteArray) (m t : ByteArray) (n : Nat) : LTri Tryz.prog W (A4' AK' 11) (tms 0 113 (aNl n 0 0)) [(0, rqO m t nilP nilB), (1, rS M), (2, pO 3 off len), (3, rB1 P)] (.exit 1) (tms 0 113 [(0, .ptr 2 0), (2, .ptr 0 0), (5, iv (Int.ofNat n))]) [(0, rqO m t nilP nilB), (2, pO 3 off len), (3, rB1 P)] := by
 refine AS' (W := W) (g := AK') (b := A4' AK' 11) (σ := Unit) 113 (fun _ => aNl n 0 0) (fun _ => [(0, rqO m t nilP nilB), (1, rS M), (2, pO 3 off len), (3, rB1 P)]) (.exit 1) [(0, .ptr 2 0), (2, .ptr 0 0), (5, iv (Int.ofNat n))] [(0, rqO m t nilP nilB), (2, pO 3 off len), (3, rB1 P)] (fun _ => 0) kNl iNl (by intro h; cases h) (fun _ => rfl) rfl (fun _ => ?_) ()
 refine ⟨[], AB' [(AK', 11, 0, hv (.lit false))], [], fun _ _ => noC, fun _ _ => noL, fun F => ?_⟩
 refine cv (XU' W P off len M m t n 0 F) ⟨⟨?_, rfl, .inr ⟨rfl, [], by kernel_rfl, by kernel_rfl, ⟨w0, w0, w0, t0⟩, ⟨_, rfl, o0⟩, ⟨_, rfl, E9' rfl rfl⟩, ⟨_, rfl, AJ' rfl rfl⟩, t0⟩⟩⟩
 simp only [Cnd.holds, and_true]
 exact A1' (ltFN (n0))
theorem aI' {a b : List AV} (h : VW a b) : Wk (.agg a) (.agg b) := fun N y hy => by
 simp only [VR] at *
 obtain ⟨vs, h1, rfl⟩ := hy
 exact ⟨vs, h N vs h1, rfl⟩
def rz0 : AV := rqV nil0 nil0 nilP nilB
def noV (s : Nat) : AV := .tuple [rz0, bv false, iv (Int.ofNat s)]
def hsV (L : Hds) : AV := match L with
 | [] => nilP
 | x :: r => sP 1000 (x :: r).length
def yesV (m t : ByteArray) (L : Hds) (B : List UInt8) : AV := .tuple [rqV m t (hsV L) (sB 1001 B.length), bv true, iv (Int.ofNat 0)]
theorem OL' {W : World} {F : HP} (hW : LW W) (hF : AE' W F) (P : List UInt8) (off len : Nat) {M ls : List ByteArray} {l0 : ByteArray} (hM : M = l0 :: ls) (hls : ∀ x ∈ ls, x.size ≤ 8192) (hn : ls.length ≤ 100000) (m t : ByteArray) (n : Nat) {L : Hds} (h : C7' [] ls = some L) (hne : L ≠ []) : L1OK Tryz.prog F (A4' AK' 11) (lNl P off len M m t n ls.length L) :=
 AW' hF VC' (fun _ _ => by
  simp only [RT.pick]
  exact nl_yes hW P off len hM hls hn m t n h hne) fun _ => by
  simp only [RT.pick]
  exact AQ' rfl rfl (A0' rfl (A0' rfl (A0' t0 (A0' rfl (A0' t0 (A0' t0 A3')))))) (A0' ⟨t0, t0, t0, t0, t0⟩ (A0' (DB' _ _) (A0' ⟨rfl, t0⟩ (A0' (AM' _ _) A3')))) (A0' rfl (A0' rfl (A0' t0 A3'))) (A0' ⟨t0, t0, rfl, t0, t0⟩ (A0' ⟨rfl, t0⟩ (A0' (AM' _ _) (A0' (BN' _ _) A3'))))
theorem gQ' {W : World} {F : HP} (hF : AE' W F) (P : List UInt8) (off len : Nat) (M : List ByteArray) (m t : ByteArray) (n : Nat) : L1OK Tryz.prog F (A4' AK' 11) (lNlZ P off len M m t n 0) :=
 AW' hF VC' (fun _ _ => by
  simp only [RT.pick]
  exact gK' P off len M m t n) fun _ => by
  simp only [RT.pick]
  exact AQ' rfl rfl (A0' rfl (A0' rfl (A0' t0 (A0' rfl (A0' t0 (A0' t0 A3')))))) (A0' ⟨t0, t0, t0, t0, t0⟩ (A0' (DB' _ _) (A0' ⟨rfl, t0⟩ (A0' (AM' _ _) A3')))) (A0' rfl (A0' rfl (A0' t0 A3'))) (A0' ⟨t0, t0, t0, t0, t0⟩ (A0' ⟨rfl, t0⟩ (A0' (AM' _ _) A3')))
theorem gR' {W : World} {F : HP} (hW : LW W) (hF : AE' W F) (P : List UInt8) (off len : Nat) {M ls : List ByteArray} {l0 : ByteArray} (hM : M = l0 :: ls) (hls : ∀ x ∈ ls, x.size ≤ 8192) (hn : ls.length ≤ 100000) (m t : ByteArray) (n : Nat) (h : C7' [] ls = none) : L1OK Tryz.prog F (A4' AK' 11) (lNlX P off len M m t n ls.length) :=
 AW' hF VC' (fun _ _ => by
  simp only [RT.pick]
  exact nl_no hW P off len hM hls hn m t n h) fun _ => by
  simp only [RT.pick]
  exact AQ' rfl rfl (A0' rfl (A0' rfl (A0' t0 (A0' rfl (A0' t0 (A0' t0 A3')))))) (A0' ⟨t0, t0, t0, t0, t0⟩ (A0' (DB' _ _) (A0' ⟨rfl, t0⟩ (A0' (AM' _ _) A3')))) (A0' rfl (A0' t0 (A0' t0 A3'))) (A0' ⟨t0, t0, t0, t0, t0⟩ (A0' ⟨rfl, t0⟩ (A0' (AM' _ _) A3')))
theorem DL' {a b : Nat} (h : a + b ≤ 100000000) : IntKind.i64.wrap (Int.ofNat a + Int.ofNat b) = Int.ofNat (a + b) := by
 have e : Int.ofNat a + Int.ofNat b = Int.ofNat (a + b) := rfl
 rw [e]
 exact IntWalk.i64_in _ (by simp only [Z0]; omega)
theorem CP' {a b : Nat} (h : b ≤ a) (ha : a ≤ 100000000) : IntKind.i64.wrap ((a : Int) - Int.ofNat b) = Int.ofNat (a - b) := by
 have e : (a : Int) - Int.ofNat b = Int.ofNat (a - b) := by simp only [Z0]; omega
 rw [e]
 exact IntWalk.i64_in _ (by simp only [Z0]; omega)
theorem WU' : Tri Tryz.prog default AK' [.ptr 0 0] [(0, pZ)] (noV 0) [(0, pZ)] := by
 refine AA' (con := [(DE', VY')]) (hints := AB' (hxA true true false false)) (lc := []) kNx rfl (fun F hF => AP' VX') (fun F hF => noL) fun F => ?_
 refine cv (e7' F) ⟨⟨?_, (AF' (vs' := [noV 0]) (H' := [(0, pZ)]) [] rfl rfl (v0) ⟨⟨_, rfl, XM' rfl⟩, t0⟩).fits rfl⟩⟩
 simp only [Cnd.holds, A2', Nat.blt_eq, true_and, and_true]
 and_intros
 all_goals first | (with_reducible first | exact t0 | exact r0 | exact A6' _ | assumption) | exact r0 | ((repeat (first | exact VW.nil | refine c1 ?_ | refine c2 ?_ | refine c3 ?_)); done)
section
variable {W : World} (hW : LW W) {P w : List UInt8} {off : Nat} (hw : P.drop off = w) (hl : w.length ≤ 4000000)
include hW hw hl
theorem nx1 (h : DP' w = 3) (h8 : 8192 < w.length) : Tri Tryz.prog W AK' [.ptr 0 0] [(0, pO 1002 off w.length), (1002, rB1 P)] (noV 413) [(0, pO 1002 off w.length), (1002, rB1 P)] := by
 refine AA' (con := [(DE', PA' P off w.length 3)]) (hints := AB' (hxA true true true false)) (lc := []) kNx rfl (fun F hF => AP' (CJ' hW hF hw hl h)) (fun F hF => noL) fun F => ?_
 refine cv (e6' W P off w.length F) ⟨⟨?_, (AF' (vs' := [noV 413]) (H' := [(0, pO 1002 off w.length), (1002, rB1 P)]) [(1002, 1002)] rfl rfl (v0) ⟨⟨_, rfl, E9' rfl rfl⟩, ⟨_, rfl, AJ' (by simp only [A2']) rfl⟩, t0⟩).fits rfl⟩⟩
 simp only [Cnd.holds, A2', Nat.blt_eq, true_and, and_true]
 and_intros
 all_goals first
  | exact A1' (decide_eq_true (by simp only [Z0, Z1]; omega))
  | exact A1' (decide_eq_false (by simp only [Z0, Z1]; omega))
  | (rw [A2']; exact o0) | (with_reducible first | exact t0 | exact r0 | exact A6' _ | assumption) | exact r0 | ((repeat (first | exact VW.nil | refine c1 ?_ | refine c2 ?_ | refine c3 ?_)); done)
theorem nx2 (h : DP' w = 3) (h8 : ¬ 8192 < w.length) : Tri Tryz.prog W AK' [.ptr 0 0] [(0, pO 1002 off w.length), (1002, rB1 P)] (noV 0) [(0, pO 1002 off w.length), (1002, rB1 P)] := by
 refine AA' (con := [(DE', PA' P off w.length 3)]) (hints := AB' (hxA true true false false)) (lc := []) kNx rfl (fun F hF => AP' (CJ' hW hF hw hl h)) (fun F hF => noL) fun F => ?_
 refine cv (e5' W P off w.length F) ⟨⟨?_, (AF' (vs' := [noV 0]) (H' := [(0, pO 1002 off w.length), (1002, rB1 P)]) [(1002, 1002)] rfl rfl (v0) ⟨⟨_, rfl, E9' rfl rfl⟩, ⟨_, rfl, AJ' (by simp only [A2']) rfl⟩, t0⟩).fits rfl⟩⟩
 simp only [Cnd.holds, A2', Nat.blt_eq, true_and, and_true]
 and_intros
 all_goals first
  | exact A1' (decide_eq_true (by simp only [Z0, Z1]; omega))
  | exact A1' (decide_eq_false (by simp only [Z0, Z1]; omega))
  | (rw [A2']; exact o0) | (with_reducible first | exact t0 | exact r0 | exact A6' _ | assumption) | exact r0 | ((repeat (first | exact VW.nil | refine c1 ?_ | refine c2 ?_ | refine c3 ?_)); done)
theorem nx3 {n : Nat} (h : DP' w = Int.ofNat n) (h8 : 8192 < n) : Tri Tryz.prog W AK' [.ptr 0 0] [(0, pO 1002 off w.length), (1002, rB1 P)] (noV 413) [(0, pO 1002 off w.length), (1002, rB1 P)] := by
 refine AA' (con := [(DE', PA' P off w.length (Int.ofNat n))]) (hints := AB' (hxA false false false true)) (lc := []) kNx rfl (fun F hF => AP' (CJ' hW hF hw hl h)) (fun F hF => noL) fun F => ?_
 refine cv (e4' W P off w.length n F) ⟨⟨?_, (AF' (vs' := [noV 413]) (H' := [(0, pO 1002 off w.length), (1002, rB1 P)]) [(1002, 1002)] rfl rfl (v0) ⟨⟨_, rfl, E9' rfl rfl⟩, ⟨_, rfl, AJ' (by simp only [A2']) rfl⟩, t0⟩).fits rfl⟩⟩
 simp only [Cnd.holds, A2', Nat.blt_eq, true_and, and_true]
 and_intros
 all_goals first
  | exact A1' (decide_eq_true (by simp only [Z0, Z1]; omega))
  | exact A1' (decide_eq_false (by simp only [Z0, Z1]; omega))
  | (rw [A2']; exact o0) | (with_reducible first | exact t0 | exact r0 | exact A6' _ | assumption) | exact r0 | ((repeat (first | exact VW.nil | refine c1 ?_ | refine c2 ?_ | refine c3 ?_)); done)
variable {n : Nat} (h : DP' w = Int.ofNat n) (hn : n ≤ w.length) (h8 : n ≤ 8192) (hoff : off + w.length = P.length) {l0 : ByteArray} {ls : List ByteArray} (hM : GO' (w.take n) = l0 :: ls)
include h hn h8 hoff hM
theorem nx4 (h4 : 4 ≤ n) (hline : lnB l0 = none) : Tri Tryz.prog W AK' [.ptr 0 0] [(0, pO 1002 off w.length), (1002, rB1 P)] (noV 400) [(0, pO 1002 off w.length), (1002, rB1 P)] := by
 have hs1l : (w.take n).length = n := by rw [List.length_take]; omega
 have hs1 : (tB (w.take n)).size ≤ 9223372036854775807 := by rw [BC', hs1l]; omega
 have hs2' : (sufB (tB (w.take n)) crB2).size ≤ 8192 := Nat.le_trans (CA' _ _) (by rw [BC', hs1l]; exact h8)
 have hs2 : (sufB (tB (w.take n)) crB2).size < 4294967281 := by omega
 have hsz : ∀ x ∈ l0 :: ls, x.size ≤ 8192 := fun x hx => Nat.le_trans (BP' (s := sufB (tB (w.take n)) crB2) (t := crB) (by rw [← hM] at hx; exact hx)) hs2'
 have hl0 : l0.size ≤ 8192 := hsz _ List.mem_cons_self
 have hls : ∀ x ∈ ls, x.size ≤ 8192 := fun x hx => hsz _ (List.mem_cons_of_mem _ hx)
 have hln : ls.length ≤ 8192 := by
  have := CQ' (sufB (tB (w.take n)) crB2) crB (by decide)
  have e : splB (sufB (tB (w.take n)) crB2) crB = l0 :: ls := hM
  rw [e, List.length_cons] at this
  omega
 have hr1 : off + n ≤ (rowV encB P).length := by rw [BR']; omega
 have hr2 : List.take n (List.drop off (rowV encB P)) = vmap ((tB (w.take n)).data.toList.map fun b => Value.int IntKind.u8 (b.toNat : Int)) := by rw [C0', hw, BZ', B1', BL']
 have row : OW (AO.cells (vmap (List.map Value.string (splB (sufB (tB (w.take n)) crB2) (ByteArray.mk (Array.mk [13, 10]))))) tStr) (AO.cells (rowV encS (l0 :: ls)) tStr) := by
  have e : splB (sufB (tB (w.take n)) crB2) (ByteArray.mk (Array.mk [13, 10])) = l0 :: ls := hM
  rw [e]; exact BB' (HE' _).symm
 have slw : Wk (AV.slice 1101 0 (List.map Value.string (splB (sufB (tB (w.take n)) crB2) (ByteArray.mk (Array.mk [13, 10])))).length 1 (Cp.lo (List.map Value.string (splB (sufB (tB (w.take n)) crB2) (ByteArray.mk (Array.mk [13, 10])))).length)) (AV.slice 1101 0 (ls.length + 1) 1 (Cp.lo (ls.length + 1))) := by
  have e : splB (sufB (tB (w.take n)) crB2) (ByteArray.mk (Array.mk [13, 10])) = l0 :: ls := hM
  rw [e, List.length_map]; exact w0
 have g1 : ∀ d, (rowV encS (l0 :: ls)).getD 0 d = sv l0 := fun d => rfl
 have g2 : Nat.blt 0 (rowV encS (l0 :: ls)).length = true := by rw [C5', Nat.blt_eq]; exact Nat.succ_pos _
 have e1 : n.ble w.length = true := by rw [Nat.ble_eq]; exact hn
 have e2 : w.length.ble w.length = true := by rw [Nat.ble_eq]; exact n0
 have e3 : (ls.length + 1).ble (ls.length + 1) = true := by rw [Nat.ble_eq]; exact n0
 refine AA' (con := cA P off w.length n l0 nil0 nil0 false) (hints := AB' (hxA false false false false ++ hxB (tB (w.take n)) (sufB (tB (w.take n)) crB2) l0 (l0 :: ls) ls.length true)) (lc := []) kNx rfl (fun F hF => A5' (CJ' hW hF hw hl h) (A5' (DS' hF) (A5' (D9' hW hF) (AP' (P9' hW hF hl0 hline))))) (fun F hF => noL) fun F => ?_
 refine cv (e3' W P (tB (w.take n)) (sufB (tB (w.take n)) crB2) l0 (l0 :: ls) off w.length n ls.length F) ⟨⟨?_, (AF' (vs' := [noV 400]) (H' := [(0, pO 1002 off w.length), (1002, rB1 P)]) [(1002, 1002)] rfl rfl (v0) ⟨⟨_, rfl, E9' rfl rfl⟩, ⟨_, rfl, AJ' (by simp only [A2']) rfl⟩, t0⟩).fits rfl⟩⟩
 simp only [Cnd.holds, A2', g1, g2, e1, e2, e3, sv, AV.strOf, Nat.blt_eq, true_and, and_true]
 and_intros
 all_goals first
  | exact hr1
  | exact hr2
  | exact hs1
  | exact hs2
  | exact row
  | exact slw
  | exact n0
  | decide
  | exact A1' (decide_eq_true (by simp only [Z0, Z1]; omega))
  | exact A1' (decide_eq_false (by simp only [Z0, Z1]; omega))
  | (rw [A2']; exact o0) | (with_reducible first | exact t0 | exact r0 | exact A6' _ | assumption) | exact r0 | ((repeat (first | exact VW.nil | refine c1 ?_ | refine c2 ?_ | refine c3 ?_)); done)
theorem nx4b (h4 : n = 2) (hline : lnB l0 = none) : Tri Tryz.prog W AK' [.ptr 0 0] [(0, pO 1002 off w.length), (1002, rB1 P)] (noV 400) [(0, pO 1002 off w.length), (1002, rB1 P)] := by
 have hs1l : (w.take n).length = n := by rw [List.length_take]; omega
 have hs1 : (tB (w.take n)).size ≤ 9223372036854775807 := by rw [BC', hs1l]; omega
 have hs2' : (sufB (tB (w.take n)) crB2).size ≤ 8192 := Nat.le_trans (CA' _ _) (by rw [BC', hs1l]; exact h8)
 have hs2 : (sufB (tB (w.take n)) crB2).size < 4294967281 := by omega
 have hsz : ∀ x ∈ l0 :: ls, x.size ≤ 8192 := fun x hx => Nat.le_trans (BP' (s := sufB (tB (w.take n)) crB2) (t := crB) (by rw [← hM] at hx; exact hx)) hs2'
 have hl0 : l0.size ≤ 8192 := hsz _ List.mem_cons_self
 have hls : ∀ x ∈ ls, x.size ≤ 8192 := fun x hx => hsz _ (List.mem_cons_of_mem _ hx)
 have hln : ls.length ≤ 8192 := by
  have := CQ' (sufB (tB (w.take n)) crB2) crB (by decide)
  have e : splB (sufB (tB (w.take n)) crB2) crB = l0 :: ls := hM
  rw [e, List.length_cons] at this
  omega
 have hr1 : off + n ≤ (rowV encB P).length := by rw [BR']; omega
 have hr2 : List.take n (List.drop off (rowV encB P)) = vmap ((tB (w.take n)).data.toList.map fun b => Value.int IntKind.u8 (b.toNat : Int)) := by rw [C0', hw, BZ', B1', BL']
 have row : OW (AO.cells (vmap (List.map Value.string (splB (sufB (tB (w.take n)) crB2) (ByteArray.mk (Array.mk [13, 10]))))) tStr) (AO.cells (rowV encS (l0 :: ls)) tStr) := by
  have e : splB (sufB (tB (w.take n)) crB2) (ByteArray.mk (Array.mk [13, 10])) = l0 :: ls := hM
  rw [e]; exact BB' (HE' _).symm
 have slw : Wk (AV.slice 1101 0 (List.map Value.string (splB (sufB (tB (w.take n)) crB2) (ByteArray.mk (Array.mk [13, 10])))).length 1 (Cp.lo (List.map Value.string (splB (sufB (tB (w.take n)) crB2) (ByteArray.mk (Array.mk [13, 10])))).length)) (AV.slice 1101 0 (ls.length + 1) 1 (Cp.lo (ls.length + 1))) := by
  have e : splB (sufB (tB (w.take n)) crB2) (ByteArray.mk (Array.mk [13, 10])) = l0 :: ls := hM
  rw [e, List.length_map]; exact w0
 have g1 : ∀ d, (rowV encS (l0 :: ls)).getD 0 d = sv l0 := fun d => rfl
 have g2 : Nat.blt 0 (rowV encS (l0 :: ls)).length = true := by rw [C5', Nat.blt_eq]; exact Nat.succ_pos _
 have e1 : n.ble w.length = true := by rw [Nat.ble_eq]; exact hn
 have e2 : w.length.ble w.length = true := by rw [Nat.ble_eq]; exact n0
 have e3 : (ls.length + 1).ble (ls.length + 1) = true := by rw [Nat.ble_eq]; exact n0
 refine AA' (con := cA P off w.length n l0 nil0 nil0 false) (hints := AB' (hxA true false false false ++ hxB (tB (w.take n)) (sufB (tB (w.take n)) crB2) l0 (l0 :: ls) ls.length true)) (lc := []) kNx rfl (fun F hF => A5' (CJ' hW hF hw hl h) (A5' (DS' hF) (A5' (D9' hW hF) (AP' (P9' hW hF hl0 hline))))) (fun F hF => noL) fun F => ?_
 refine cv (XS' W P (tB (w.take n)) (sufB (tB (w.take n)) crB2) l0 (l0 :: ls) off w.length n ls.length F) ⟨⟨?_, (AF' (vs' := [noV 400]) (H' := [(0, pO 1002 off w.length), (1002, rB1 P)]) [(1002, 1002)] rfl rfl (v0) ⟨⟨_, rfl, E9' rfl rfl⟩, ⟨_, rfl, AJ' (by simp only [A2']) rfl⟩, t0⟩).fits rfl⟩⟩
 simp only [Cnd.holds, A2', g1, g2, e1, e2, e3, sv, AV.strOf, Nat.blt_eq, true_and, and_true]
 and_intros
 all_goals first
  | exact A1' (by rw [h4]; rfl)
  | exact hr1
  | exact hr2
  | exact hs1
  | exact hs2
  | exact row
  | exact slw
  | exact n0
  | decide
  | exact A1' (decide_eq_true (by simp only [Z0, Z1]; omega))
  | exact A1' (decide_eq_false (by simp only [Z0, Z1]; omega))
  | (rw [A2']; exact o0) | (with_reducible first | exact t0 | exact r0 | exact A6' _ | assumption) | exact r0 | ((repeat (first | exact VW.nil | refine c1 ?_ | refine c2 ?_ | refine c3 ?_)); done)
variable {m t : ByteArray} (h4 : 4 ≤ n) (hline : lnB l0 = some (m, t))
include h4 hline
theorem nx5 (hh : C7' [] ls = none) : Tri Tryz.prog W AK' [.ptr 0 0] [(0, pO 1002 off w.length), (1002, rB1 P)] (noV 400) [(0, pO 1002 off w.length), (1002, rB1 P)] := by
 have hs1l : (w.take n).length = n := by rw [List.length_take]; omega
 have hs1 : (tB (w.take n)).size ≤ 9223372036854775807 := by rw [BC', hs1l]; omega
 have hs2' : (sufB (tB (w.take n)) crB2).size ≤ 8192 := Nat.le_trans (CA' _ _) (by rw [BC', hs1l]; exact h8)
 have hs2 : (sufB (tB (w.take n)) crB2).size < 4294967281 := by omega
 have hsz : ∀ x ∈ l0 :: ls, x.size ≤ 8192 := fun x hx => Nat.le_trans (BP' (s := sufB (tB (w.take n)) crB2) (t := crB) (by rw [← hM] at hx; exact hx)) hs2'
 have hl0 : l0.size ≤ 8192 := hsz _ List.mem_cons_self
 have hls : ∀ x ∈ ls, x.size ≤ 8192 := fun x hx => hsz _ (List.mem_cons_of_mem _ hx)
 have hln : ls.length ≤ 8192 := by
  have := CQ' (sufB (tB (w.take n)) crB2) crB (by decide)
  have e : splB (sufB (tB (w.take n)) crB2) crB = l0 :: ls := hM
  rw [e, List.length_cons] at this
  omega
 have hr1 : off + n ≤ (rowV encB P).length := by rw [BR']; omega
 have hr2 : List.take n (List.drop off (rowV encB P)) = vmap ((tB (w.take n)).data.toList.map fun b => Value.int IntKind.u8 (b.toNat : Int)) := by rw [C0', hw, BZ', B1', BL']
 have row : OW (AO.cells (vmap (List.map Value.string (splB (sufB (tB (w.take n)) crB2) (ByteArray.mk (Array.mk [13, 10]))))) tStr) (AO.cells (rowV encS (l0 :: ls)) tStr) := by
  have e : splB (sufB (tB (w.take n)) crB2) (ByteArray.mk (Array.mk [13, 10])) = l0 :: ls := hM
  rw [e]; exact BB' (HE' _).symm
 have slw : Wk (AV.slice 1101 0 (List.map Value.string (splB (sufB (tB (w.take n)) crB2) (ByteArray.mk (Array.mk [13, 10])))).length 1 (Cp.lo (List.map Value.string (splB (sufB (tB (w.take n)) crB2) (ByteArray.mk (Array.mk [13, 10])))).length)) (AV.slice 1101 0 (ls.length + 1) 1 (Cp.lo (ls.length + 1))) := by
  have e : splB (sufB (tB (w.take n)) crB2) (ByteArray.mk (Array.mk [13, 10])) = l0 :: ls := hM
  rw [e, List.length_map]; exact w0
 have g1 : ∀ d, (rowV encS (l0 :: ls)).getD 0 d = sv l0 := fun d => rfl
 have g2 : Nat.blt 0 (rowV encS (l0 :: ls)).length = true := by rw [C5', Nat.blt_eq]; exact Nat.succ_pos _
 have e1 : n.ble w.length = true := by rw [Nat.ble_eq]; exact hn
 have e2 : w.length.ble w.length = true := by rw [Nat.ble_eq]; exact n0
 have e3 : (ls.length + 1).ble (ls.length + 1) = true := by rw [Nat.ble_eq]; exact n0
 refine AA' (con := cA P off w.length n l0 m t true) (hints := AB' (hxA false false false false ++ hxB (tB (w.take n)) (sufB (tB (w.take n)) crB2) l0 (l0 :: ls) ls.length false)) (lc := [(AK', 11, A4' AK' 11, lNlX P off w.length (l0 :: ls) m t n ls.length)]) kNx rfl (fun F hF => A5' (CJ' hW hF hw hl h) (A5' (DS' hF) (A5' (D9' hW hF) (AP' (E6' hW hF hl0 hline))))) (fun F hF => BE' (gR' hW hF _ _ _ rfl hls (by omega) m t n hh)) fun F => ?_
 refine cv (dZ' W P (tB (w.take n)) (sufB (tB (w.take n)) crB2) l0 m t (l0 :: ls) off w.length n ls.length F) ⟨⟨?_, (AF' (vs' := [noV 400]) (H' := [(0, pO 1002 off w.length), (1002, rB1 P)]) [(1002, 1002)] rfl rfl (v0) ⟨⟨_, rfl, E9' rfl rfl⟩, ⟨_, rfl, AJ' (by simp only [A2']) rfl⟩, t0⟩).fits rfl⟩⟩
 simp only [Cnd.holds, A2', g1, g2, e1, e2, e3, sv, AV.strOf, Nat.blt_eq, true_and, and_true]
 and_intros
 all_goals first
  | exact hr1
  | exact hr2
  | exact hs1
  | exact hs2
  | exact row
  | exact slw
  | exact n0
  | decide
  | exact A1' (decide_eq_true (by simp only [Z0, Z1]; omega))
  | exact A1' (decide_eq_false (by simp only [Z0, Z1]; omega))
  | (rw [A2']; exact o0) | (with_reducible first | exact t0 | exact r0 | exact A6' _ | assumption) | exact r0 | ((repeat (first | exact VW.nil | refine c1 ?_ | refine c2 ?_ | refine c3 ?_)); done)
theorem nx6 {L : Hds} (hh : C7' [] ls = some L) (hne : L ≠ []) (hsz0 : lenB L = none) : Tri Tryz.prog W AK' [.ptr 0 0] [(0, pO 1002 off w.length), (1002, rB1 P)] (noV 400) [(0, pO 1002 off w.length), (1002, rB1 P)] := by
 have hs1l : (w.take n).length = n := by rw [List.length_take]; omega
 have hs1 : (tB (w.take n)).size ≤ 9223372036854775807 := by rw [BC', hs1l]; omega
 have hs2' : (sufB (tB (w.take n)) crB2).size ≤ 8192 := Nat.le_trans (CA' _ _) (by rw [BC', hs1l]; exact h8)
 have hs2 : (sufB (tB (w.take n)) crB2).size < 4294967281 := by omega
 have hsz : ∀ x ∈ l0 :: ls, x.size ≤ 8192 := fun x hx => Nat.le_trans (BP' (s := sufB (tB (w.take n)) crB2) (t := crB) (by rw [← hM] at hx; exact hx)) hs2'
 have hl0 : l0.size ≤ 8192 := hsz _ List.mem_cons_self
 have hls : ∀ x ∈ ls, x.size ≤ 8192 := fun x hx => hsz _ (List.mem_cons_of_mem _ hx)
 have hln : ls.length ≤ 8192 := by
  have := CQ' (sufB (tB (w.take n)) crB2) crB (by decide)
  have e : splB (sufB (tB (w.take n)) crB2) crB = l0 :: ls := hM
  rw [e, List.length_cons] at this
  omega
 have hr1 : off + n ≤ (rowV encB P).length := by rw [BR']; omega
 have hr2 : List.take n (List.drop off (rowV encB P)) = vmap ((tB (w.take n)).data.toList.map fun b => Value.int IntKind.u8 (b.toNat : Int)) := by rw [C0', hw, BZ', B1', BL']
 have row : OW (AO.cells (vmap (List.map Value.string (splB (sufB (tB (w.take n)) crB2) (ByteArray.mk (Array.mk [13, 10]))))) tStr) (AO.cells (rowV encS (l0 :: ls)) tStr) := by
  have e : splB (sufB (tB (w.take n)) crB2) (ByteArray.mk (Array.mk [13, 10])) = l0 :: ls := hM
  rw [e]; exact BB' (HE' _).symm
 have slw : Wk (AV.slice 1101 0 (List.map Value.string (splB (sufB (tB (w.take n)) crB2) (ByteArray.mk (Array.mk [13, 10])))).length 1 (Cp.lo (List.map Value.string (splB (sufB (tB (w.take n)) crB2) (ByteArray.mk (Array.mk [13, 10])))).length)) (AV.slice 1101 0 (ls.length + 1) 1 (Cp.lo (ls.length + 1))) := by
  have e : splB (sufB (tB (w.take n)) crB2) (ByteArray.mk (Array.mk [13, 10])) = l0 :: ls := hM
  rw [e, List.length_map]; exact w0
 have g1 : ∀ d, (rowV encS (l0 :: ls)).getD 0 d = sv l0 := fun d => rfl
 have g2 : Nat.blt 0 (rowV encS (l0 :: ls)).length = true := by rw [C5', Nat.blt_eq]; exact Nat.succ_pos _
 have e1 : n.ble w.length = true := by rw [Nat.ble_eq]; exact hn
 have e2 : w.length.ble w.length = true := by rw [Nat.ble_eq]; exact n0
 have e3 : (ls.length + 1).ble (ls.length + 1) = true := by rw [Nat.ble_eq]; exact n0
 have hLl : L.length ≤ 8192 := by
  have := BI' hh
  rw [List.length_nil] at this
  omega
 refine AA' (con := cA P off w.length n l0 m t true ++ [(fLen, cLen L m t (Int.ofNat 0) false)]) (hints := AB' (hxA false false false false ++ hxB (tB (w.take n)) (sufB (tB (w.take n)) crB2) l0 (l0 :: ls) ls.length false ++ hxC n 0 true false false)) (lc := [(AK', 11, A4' AK' 11, lNl P off w.length (l0 :: ls) m t n ls.length L)]) kNx rfl (fun F hF => A5' (CJ' hW hF hw hl h) (A5' (DS' hF) (A5' (D9' hW hF) (A5' (E6' hW hF hl0 hline) (AP' (L4' hF (by omega) (by rw [hsz0]; rfl))))))) (fun F hF => BE' (OL' hW hF _ _ _ rfl hls (by omega) m t n hh hne)) fun F => ?_
 refine cv (dY' W P (tB (w.take n)) (sufB (tB (w.take n)) crB2) l0 m t (l0 :: ls) L off w.length n ls.length 0 F) ⟨⟨?_, (AF' (vs' := [noV 400]) (H' := [(0, pO 1002 off w.length), (1002, rB1 P)]) [(1002, 1002)] rfl rfl (v0) ⟨⟨_, rfl, E9' rfl rfl⟩, ⟨_, rfl, AJ' (by simp only [A2']) rfl⟩, t0⟩).fits rfl⟩⟩
 simp only [Cnd.holds, A2', g1, g2, e1, e2, e3, sv, AV.strOf, Nat.blt_eq, true_and, and_true]
 and_intros
 all_goals first
  | exact hr1
  | exact hr2
  | exact hs1
  | exact hs2
  | exact row
  | exact slw
  | exact n0
  | decide
  | exact A1' (decide_eq_true (by simp only [Z0, Z1]; omega))
  | exact A1' (decide_eq_false (by simp only [Z0, Z1]; omega))
  | (rw [A2']; exact o0) | (with_reducible first | exact t0 | exact r0 | exact A6' _ | assumption) | exact r0 | ((repeat (first | exact VW.nil | refine c1 ?_ | refine c2 ?_ | refine c3 ?_)); done)
theorem nx7 {L : Hds} (hh : C7' [] ls = some L) (hne : L ≠ []) {sz : Nat} (hsz0 : lenB L = some sz) (hbig : 65536 < sz) : Tri Tryz.prog W AK' [.ptr 0 0] [(0, pO 1002 off w.length), (1002, rB1 P)] (noV 413) [(0, pO 1002 off w.length), (1002, rB1 P)] := by
 have hs1l : (w.take n).length = n := by rw [List.length_take]; omega
 have hs1 : (tB (w.take n)).size ≤ 9223372036854775807 := by rw [BC', hs1l]; omega
 have hs2' : (sufB (tB (w.take n)) crB2).size ≤ 8192 := Nat.le_trans (CA' _ _) (by rw [BC', hs1l]; exact h8)
 have hs2 : (sufB (tB (w.take n)) crB2).size < 4294967281 := by omega
 have hsz : ∀ x ∈ l0 :: ls, x.size ≤ 8192 := fun x hx => Nat.le_trans (BP' (s := sufB (tB (w.take n)) crB2) (t := crB) (by rw [← hM] at hx; exact hx)) hs2'
 have hl0 : l0.size ≤ 8192 := hsz _ List.mem_cons_self
 have hls : ∀ x ∈ ls, x.size ≤ 8192 := fun x hx => hsz _ (List.mem_cons_of_mem _ hx)
 have hln : ls.length ≤ 8192 := by
  have := CQ' (sufB (tB (w.take n)) crB2) crB (by decide)
  have e : splB (sufB (tB (w.take n)) crB2) crB = l0 :: ls := hM
  rw [e, List.length_cons] at this
  omega
 have hr1 : off + n ≤ (rowV encB P).length := by rw [BR']; omega
 have hr2 : List.take n (List.drop off (rowV encB P)) = vmap ((tB (w.take n)).data.toList.map fun b => Value.int IntKind.u8 (b.toNat : Int)) := by rw [C0', hw, BZ', B1', BL']
 have row : OW (AO.cells (vmap (List.map Value.string (splB (sufB (tB (w.take n)) crB2) (ByteArray.mk (Array.mk [13, 10]))))) tStr) (AO.cells (rowV encS (l0 :: ls)) tStr) := by
  have e : splB (sufB (tB (w.take n)) crB2) (ByteArray.mk (Array.mk [13, 10])) = l0 :: ls := hM
  rw [e]; exact BB' (HE' _).symm
 have slw : Wk (AV.slice 1101 0 (List.map Value.string (splB (sufB (tB (w.take n)) crB2) (ByteArray.mk (Array.mk [13, 10])))).length 1 (Cp.lo (List.map Value.string (splB (sufB (tB (w.take n)) crB2) (ByteArray.mk (Array.mk [13, 10])))).length)) (AV.slice 1101 0 (ls.length + 1) 1 (Cp.lo (ls.length + 1))) := by
  have e : splB (sufB (tB (w.take n)) crB2) (ByteArray.mk (Array.mk [13, 10])) = l0 :: ls := hM
  rw [e, List.length_map]; exact w0
 have g1 : ∀ d, (rowV encS (l0 :: ls)).getD 0 d = sv l0 := fun d => rfl
 have g2 : Nat.blt 0 (rowV encS (l0 :: ls)).length = true := by rw [C5', Nat.blt_eq]; exact Nat.succ_pos _
 have e1 : n.ble w.length = true := by rw [Nat.ble_eq]; exact hn
 have e2 : w.length.ble w.length = true := by rw [Nat.ble_eq]; exact n0
 have e3 : (ls.length + 1).ble (ls.length + 1) = true := by rw [Nat.ble_eq]; exact n0
 have hLl : L.length ≤ 8192 := by
  have := BI' hh
  rw [List.length_nil] at this
  omega
 refine AA' (con := cA P off w.length n l0 m t true ++ [(fLen, cLen L m t (Int.ofNat sz) true)]) (hints := AB' (hxA false false false false ++ hxB (tB (w.take n)) (sufB (tB (w.take n)) crB2) l0 (l0 :: ls) ls.length false ++ hxC n sz false true false)) (lc := [(AK', 11, A4' AK' 11, lNl P off w.length (l0 :: ls) m t n ls.length L)]) kNx rfl (fun F hF => A5' (CJ' hW hF hw hl h) (A5' (DS' hF) (A5' (D9' hW hF) (A5' (E6' hW hF hl0 hline) (AP' (L4' hF (by omega) (by rw [hsz0]; rfl))))))) (fun F hF => BE' (OL' hW hF _ _ _ rfl hls (by omega) m t n hh hne)) fun F => ?_
 refine cv (dX' W P (tB (w.take n)) (sufB (tB (w.take n)) crB2) l0 m t (l0 :: ls) L off w.length n ls.length sz F) ⟨⟨?_, (AF' (vs' := [noV 413]) (H' := [(0, pO 1002 off w.length), (1002, rB1 P)]) [(1002, 1002)] rfl rfl (v0) ⟨⟨_, rfl, E9' rfl rfl⟩, ⟨_, rfl, AJ' (by simp only [A2']) rfl⟩, t0⟩).fits rfl⟩⟩
 simp only [Cnd.holds, A2', g1, g2, e1, e2, e3, sv, AV.strOf, Nat.blt_eq, true_and, and_true]
 and_intros
 all_goals first
  | exact hr1
  | exact hr2
  | exact hs1
  | exact hs2
  | exact row
  | exact slw
  | exact n0
  | decide
  | exact A1' (decide_eq_true (by simp only [Z0, Z1]; omega))
  | exact A1' (decide_eq_false (by simp only [Z0, Z1]; omega))
  | (rw [A2']; exact o0) | (with_reducible first | exact t0 | exact r0 | exact A6' _ | assumption) | exact r0 | ((repeat (first | exact VW.nil | refine c1 ?_ | refine c2 ?_ | refine c3 ?_)); done)
theorem nx8 {L : Hds} (hh : C7' [] ls = some L) (hne : L ≠ []) {sz : Nat} (hsz0 : lenB L = some sz) (hbig : sz ≤ 65536) (hsh : w.length - n < sz) : Tri Tryz.prog W AK' [.ptr 0 0] [(0, pO 1002 off w.length), (1002, rB1 P)] (noV 0) [(0, pO 1002 off w.length), (1002, rB1 P)] := by
 have hs1l : (w.take n).length = n := by rw [List.length_take]; omega
 have hs1 : (tB (w.take n)).size ≤ 9223372036854775807 := by rw [BC', hs1l]; omega
 have hs2' : (sufB (tB (w.take n)) crB2).size ≤ 8192 := Nat.le_trans (CA' _ _) (by rw [BC', hs1l]; exact h8)
 have hs2 : (sufB (tB (w.take n)) crB2).size < 4294967281 := by omega
 have hsz : ∀ x ∈ l0 :: ls, x.size ≤ 8192 := fun x hx => Nat.le_trans (BP' (s := sufB (tB (w.take n)) crB2) (t := crB) (by rw [← hM] at hx; exact hx)) hs2'
 have hl0 : l0.size ≤ 8192 := hsz _ List.mem_cons_self
 have hls : ∀ x ∈ ls, x.size ≤ 8192 := fun x hx => hsz _ (List.mem_cons_of_mem _ hx)
 have hln : ls.length ≤ 8192 := by
  have := CQ' (sufB (tB (w.take n)) crB2) crB (by decide)
  have e : splB (sufB (tB (w.take n)) crB2) crB = l0 :: ls := hM
  rw [e, List.length_cons] at this
  omega
 have hr1 : off + n ≤ (rowV encB P).length := by rw [BR']; omega
 have hr2 : List.take n (List.drop off (rowV encB P)) = vmap ((tB (w.take n)).data.toList.map fun b => Value.int IntKind.u8 (b.toNat : Int)) := by rw [C0', hw, BZ', B1', BL']
 have row : OW (AO.cells (vmap (List.map Value.string (splB (sufB (tB (w.take n)) crB2) (ByteArray.mk (Array.mk [13, 10]))))) tStr) (AO.cells (rowV encS (l0 :: ls)) tStr) := by
  have e : splB (sufB (tB (w.take n)) crB2) (ByteArray.mk (Array.mk [13, 10])) = l0 :: ls := hM
  rw [e]; exact BB' (HE' _).symm
 have slw : Wk (AV.slice 1101 0 (List.map Value.string (splB (sufB (tB (w.take n)) crB2) (ByteArray.mk (Array.mk [13, 10])))).length 1 (Cp.lo (List.map Value.string (splB (sufB (tB (w.take n)) crB2) (ByteArray.mk (Array.mk [13, 10])))).length)) (AV.slice 1101 0 (ls.length + 1) 1 (Cp.lo (ls.length + 1))) := by
  have e : splB (sufB (tB (w.take n)) crB2) (ByteArray.mk (Array.mk [13, 10])) = l0 :: ls := hM
  rw [e, List.length_map]; exact w0
 have g1 : ∀ d, (rowV encS (l0 :: ls)).getD 0 d = sv l0 := fun d => rfl
 have g2 : Nat.blt 0 (rowV encS (l0 :: ls)).length = true := by rw [C5', Nat.blt_eq]; exact Nat.succ_pos _
 have e1 : n.ble w.length = true := by rw [Nat.ble_eq]; exact hn
 have e2 : w.length.ble w.length = true := by rw [Nat.ble_eq]; exact n0
 have e3 : (ls.length + 1).ble (ls.length + 1) = true := by rw [Nat.ble_eq]; exact n0
 have hLl : L.length ≤ 8192 := by
  have := BI' hh
  rw [List.length_nil] at this
  omega
 have hwr := CP' hn (by omega)
 refine AA' (con := cA P off w.length n l0 m t true ++ [(fLen, cLen L m t (Int.ofNat sz) true)]) (hints := AB' (hxA false false false false ++ hxB (tB (w.take n)) (sufB (tB (w.take n)) crB2) l0 (l0 :: ls) ls.length false ++ hxC n sz false false true)) (lc := [(AK', 11, A4' AK' 11, lNl P off w.length (l0 :: ls) m t n ls.length L)]) kNx rfl (fun F hF => A5' (CJ' hW hF hw hl h) (A5' (DS' hF) (A5' (D9' hW hF) (A5' (E6' hW hF hl0 hline) (AP' (L4' hF (by omega) (by rw [hsz0]; rfl))))))) (fun F hF => BE' (OL' hW hF _ _ _ rfl hls (by omega) m t n hh hne)) fun F => ?_
 refine cv (dW' W P (tB (w.take n)) (sufB (tB (w.take n)) crB2) l0 m t (l0 :: ls) L off w.length n ls.length sz F) ⟨⟨?_, (AF' (vs' := [noV 0]) (H' := [(0, pO 1002 off w.length), (1002, rB1 P)]) [(1002, 1002)] rfl rfl (v0) ⟨⟨_, rfl, E9' rfl rfl⟩, ⟨_, rfl, AJ' (by simp only [A2']) rfl⟩, t0⟩).fits rfl⟩⟩
 simp only [Cnd.holds, A2', g1, g2, e1, e2, e3, sv, AV.strOf, hwr, Nat.blt_eq, true_and, and_true]
 and_intros
 all_goals first
  | exact hr1
  | exact hr2
  | exact hs1
  | exact hs2
  | exact row
  | exact slw
  | exact n0
  | decide
  | exact A1' (decide_eq_true (by simp only [Z0, Z1]; omega))
  | exact A1' (decide_eq_false (by simp only [Z0, Z1]; omega))
  | (rw [A2']; exact o0) | (with_reducible first | exact t0 | exact r0 | exact A6' _ | assumption) | exact r0 | ((repeat (first | exact VW.nil | refine c1 ?_ | refine c2 ?_ | refine c3 ?_)); done)
theorem nx9r {L : Hds} (hh : C7' [] ls = some L) (hne : L ≠ []) {sz : Nat} (hsz0 : lenB L = some sz) (hbig : sz ≤ 65536) (hsh : sz ≤ w.length - n) (h0 : 0 < sz) : Tri Tryz.prog W AK' [.ptr 0 0] [(0, pO 1002 off w.length), (1002, rB1 P)] (.tuple [rqV m t (sP 1000 L.length) (sB 1001 sz), bv true, iv (Int.ofNat 0)]) [(0, pO 1002 (off + (n + sz)) (w.length - (n + sz))), (1002, rB1 P), (1000, rP L), (1001, rB ((w.drop n).take sz))] := by
 have hs1l : (w.take n).length = n := by rw [List.length_take]; omega
 have hs1 : (tB (w.take n)).size ≤ 9223372036854775807 := by rw [BC', hs1l]; omega
 have hs2' : (sufB (tB (w.take n)) crB2).size ≤ 8192 := Nat.le_trans (CA' _ _) (by rw [BC', hs1l]; exact h8)
 have hs2 : (sufB (tB (w.take n)) crB2).size < 4294967281 := by omega
 have hsz : ∀ x ∈ l0 :: ls, x.size ≤ 8192 := fun x hx => Nat.le_trans (BP' (s := sufB (tB (w.take n)) crB2) (t := crB) (by rw [← hM] at hx; exact hx)) hs2'
 have hl0 : l0.size ≤ 8192 := hsz _ List.mem_cons_self
 have hls : ∀ x ∈ ls, x.size ≤ 8192 := fun x hx => hsz _ (List.mem_cons_of_mem _ hx)
 have hln : ls.length ≤ 8192 := by
  have := CQ' (sufB (tB (w.take n)) crB2) crB (by decide)
  have e : splB (sufB (tB (w.take n)) crB2) crB = l0 :: ls := hM
  rw [e, List.length_cons] at this
  omega
 have hr1 : off + n ≤ (rowV encB P).length := by rw [BR']; omega
 have hr2 : List.take n (List.drop off (rowV encB P)) = vmap ((tB (w.take n)).data.toList.map fun b => Value.int IntKind.u8 (b.toNat : Int)) := by rw [C0', hw, BZ', B1', BL']
 have row : OW (AO.cells (vmap (List.map Value.string (splB (sufB (tB (w.take n)) crB2) (ByteArray.mk (Array.mk [13, 10]))))) tStr) (AO.cells (rowV encS (l0 :: ls)) tStr) := by
  have e : splB (sufB (tB (w.take n)) crB2) (ByteArray.mk (Array.mk [13, 10])) = l0 :: ls := hM
  rw [e]; exact BB' (HE' _).symm
 have slw : Wk (AV.slice 1101 0 (List.map Value.string (splB (sufB (tB (w.take n)) crB2) (ByteArray.mk (Array.mk [13, 10])))).length 1 (Cp.lo (List.map Value.string (splB (sufB (tB (w.take n)) crB2) (ByteArray.mk (Array.mk [13, 10])))).length)) (AV.slice 1101 0 (ls.length + 1) 1 (Cp.lo (ls.length + 1))) := by
  have e : splB (sufB (tB (w.take n)) crB2) (ByteArray.mk (Array.mk [13, 10])) = l0 :: ls := hM
  rw [e, List.length_map]; exact w0
 have g1 : ∀ d, (rowV encS (l0 :: ls)).getD 0 d = sv l0 := fun d => rfl
 have g2 : Nat.blt 0 (rowV encS (l0 :: ls)).length = true := by rw [C5', Nat.blt_eq]; exact Nat.succ_pos _
 have e1 : n.ble w.length = true := by rw [Nat.ble_eq]; exact hn
 have e2 : w.length.ble w.length = true := by rw [Nat.ble_eq]; exact n0
 have e3 : (ls.length + 1).ble (ls.length + 1) = true := by rw [Nat.ble_eq]; exact n0
 have hLl : L.length ≤ 8192 := by
  have := BI' hh
  rw [List.length_nil] at this
  omega
 have hwr := CP' hn (by omega)
 have hwa := DL' (a := n) (b := sz) (by omega)
 have eZ : n + sz - n = sz := by omega
 have e6 : sz.ble sz = true := by rw [Nat.ble_eq]; exact n0
 have hB : List.take sz (List.drop (off + n) (rowV encB P)) = rowV encB ((w.drop n).take sz) := by
  rw [C0', BZ', ← hw, List.drop_drop]
 have hBl : (rowV encB ((w.drop n).take sz)).length.beq sz = true := by
  rw [BR', List.length_take, List.length_drop, Nat.min_eq_left hsh]
  exact Nat.beq_refl _
 have hB1 : (rowV encB ((w.drop n).take sz)).all AV.one = true := MU' (fun _ => rfl) _
 have b0 : Nat.blt 0 sz = true := by rw [Nat.blt_eq]; exact h0
 have b1 : sz.ble 140737488355328 = true := C6' (by omega)
 have b2 : sz.ble 9223372036854775807 = true := C6' (by omega)
 have e4 : n.ble (n + sz) = true := by rw [Nat.ble_eq]; omega
 have e5 : (n + sz).ble w.length = true := by rw [Nat.ble_eq]; omega
 refine AA' (con := cA P off w.length n l0 m t true ++ [(fLen, cLen L m t (Int.ofNat sz) true)]) (hints := AB' (hxA false false false false ++ hxB (tB (w.take n)) (sufB (tB (w.take n)) crB2) l0 (l0 :: ls) ls.length false ++ hxC n sz false false false ++ [(GC', 1, 1, hv (.lit false)), (GC', 3, 2, hvo (sB 1104 sz) 1104 (rB ((w.drop n).take sz)))])) (lc := [(AK', 11, A4' AK' 11, lNl P off w.length (l0 :: ls) m t n ls.length L)]) kNx rfl (fun F hF => A5' (CJ' hW hF hw hl h) (A5' (DS' hF) (A5' (D9' hW hF) (A5' (E6' hW hF hl0 hline) (AP' (L4' hF (by omega) (by rw [hsz0]; rfl))))))) (fun F hF => BE' (OL' hW hF _ _ _ rfl hls (by omega) m t n hh hne)) fun F => ?_
 refine cv (XQ' W P (tB (w.take n)) (sufB (tB (w.take n)) crB2) l0 m t (l0 :: ls) L off w.length n ls.length sz ((w.drop n).take sz) F) ⟨⟨?_, (AF' (vs' := [.tuple [rqV m t (sP 1000 L.length) (sB 1001 sz), bv true, iv (Int.ofNat 0)]]) (H' := [(0, pO 1002 (off + (n + sz)) (w.length - (n + sz))), (1002, rB1 P), (1000, rP L), (1001, rB ((w.drop n).take sz))]) [(1002, 1002), (1000, 1102), (1001, 1104)] rfl rfl (v0) ⟨⟨_, rfl, by rw [Nat.mul_one]; exact E9' rfl rfl⟩, ⟨_, rfl, AJ' (by simp only [A2']) rfl⟩, ⟨_, rfl, BQ' (by simp only [A2']) rfl⟩, ⟨_, rfl, BW' rfl rfl⟩, t0⟩).fits rfl⟩⟩
 simp only [Cnd.holds, A2', g1, g2, e1, e2, e3, sv, AV.strOf, hwr, hwa, e4, e5, eZ, e6, Nat.zero_add, Nat.mul_one, hB, hBl, hB1, b0, b1, b2, List.nil_append, Nat.blt_eq, true_and, and_true]
 and_intros
 all_goals first
  | exact hr1
  | exact hr2
  | exact hs1
  | exact hs2
  | exact row
  | exact slw
  | exact n0
  | decide
  | exact A1' (decide_eq_true (by simp only [Z0, Z1]; omega))
  | exact A1' (decide_eq_false (by simp only [Z0, Z1]; omega))
  | (rw [A2']; exact o0) | (with_reducible first | exact t0 | exact r0 | exact A6' _ | assumption) | exact r0 | ((repeat (first | exact VW.nil | refine c1 ?_ | refine c2 ?_ | refine c3 ?_)); done)
theorem nx9e {L : Hds} (hh : C7' [] ls = some L) (hne : L ≠ []) (hsz0 : lenB L = some 0) : Tri Tryz.prog W AK' [.ptr 0 0] [(0, pO 1002 off w.length), (1002, rB1 P)] (.tuple [rqV m t (sP 1000 L.length) (sB 1001 0), bv true, iv (Int.ofNat 0)]) [(0, pO 1002 (off + n) (w.length - n)), (1002, rB1 P), (1000, rP L), (1001, rB [])] := by
 have hs1l : (w.take n).length = n := by rw [List.length_take]; omega
 have hs1 : (tB (w.take n)).size ≤ 9223372036854775807 := by rw [BC', hs1l]; omega
 have hs2' : (sufB (tB (w.take n)) crB2).size ≤ 8192 := Nat.le_trans (CA' _ _) (by rw [BC', hs1l]; exact h8)
 have hs2 : (sufB (tB (w.take n)) crB2).size < 4294967281 := by omega
 have hsz : ∀ x ∈ l0 :: ls, x.size ≤ 8192 := fun x hx => Nat.le_trans (BP' (s := sufB (tB (w.take n)) crB2) (t := crB) (by rw [← hM] at hx; exact hx)) hs2'
 have hl0 : l0.size ≤ 8192 := hsz _ List.mem_cons_self
 have hls : ∀ x ∈ ls, x.size ≤ 8192 := fun x hx => hsz _ (List.mem_cons_of_mem _ hx)
 have hln : ls.length ≤ 8192 := by
  have := CQ' (sufB (tB (w.take n)) crB2) crB (by decide)
  have e : splB (sufB (tB (w.take n)) crB2) crB = l0 :: ls := hM
  rw [e, List.length_cons] at this
  omega
 have hr1 : off + n ≤ (rowV encB P).length := by rw [BR']; omega
 have hr2 : List.take n (List.drop off (rowV encB P)) = vmap ((tB (w.take n)).data.toList.map fun b => Value.int IntKind.u8 (b.toNat : Int)) := by rw [C0', hw, BZ', B1', BL']
 have row : OW (AO.cells (vmap (List.map Value.string (splB (sufB (tB (w.take n)) crB2) (ByteArray.mk (Array.mk [13, 10]))))) tStr) (AO.cells (rowV encS (l0 :: ls)) tStr) := by
  have e : splB (sufB (tB (w.take n)) crB2) (ByteArray.mk (Array.mk [13, 10])) = l0 :: ls := hM
  rw [e]; exact BB' (HE' _).symm
 have slw : Wk (AV.slice 1101 0 (List.map Value.string (splB (sufB (tB (w.take n)) crB2) (ByteArray.mk (Array.mk [13, 10])))).length 1 (Cp.lo (List.map Value.string (splB (sufB (tB (w.take n)) crB2) (ByteArray.mk (Array.mk [13, 10])))).length)) (AV.slice 1101 0 (ls.length + 1) 1 (Cp.lo (ls.length + 1))) := by
  have e : splB (sufB (tB (w.take n)) crB2) (ByteArray.mk (Array.mk [13, 10])) = l0 :: ls := hM
  rw [e, List.length_map]; exact w0
 have g1 : ∀ d, (rowV encS (l0 :: ls)).getD 0 d = sv l0 := fun d => rfl
 have g2 : Nat.blt 0 (rowV encS (l0 :: ls)).length = true := by rw [C5', Nat.blt_eq]; exact Nat.succ_pos _
 have e1 : n.ble w.length = true := by rw [Nat.ble_eq]; exact hn
 have e2 : w.length.ble w.length = true := by rw [Nat.ble_eq]; exact n0
 have e3 : (ls.length + 1).ble (ls.length + 1) = true := by rw [Nat.ble_eq]; exact n0
 have hLl : L.length ≤ 8192 := by
  have := BI' hh
  rw [List.length_nil] at this
  omega
 have hwr := CP' hn (by omega)
 have hwa := DL' (a := n) (b := 0) (by omega)
 have e4 : n.ble n = true := by rw [Nat.ble_eq]; exact n0
 have yw : VW [AV.tuple [AV.agg [sv m, sv t, AV.slice 1102 0 L.length 2 (Cp.lo L.length), AV.slice 1103 0 0 1 (Cp.ex 0)], bv true, iv (Int.ofNat 0)]] [AV.tuple [AV.agg [sv m, sv t, AV.slice 1102 0 L.length 2 (Cp.lo L.length), AV.slice 1103 0 0 1 (Cp.lo 0)], bv true, iv (Int.ofNat 0)]] := VW.cons (B8' (VW.cons (aI' (VW.cons w0 (VW.cons w0 (VW.cons w0 (VW.cons (CY' (n0)) VW.nil))))) (VW.cons w0 (VW.cons w0 VW.nil)))) VW.nil
 refine AA' (con := cA P off w.length n l0 m t true ++ [(fLen, cLen L m t (Int.ofNat 0) true)]) (hints := AB' (hxA false false false false ++ hxB (tB (w.take n)) (sufB (tB (w.take n)) crB2) l0 (l0 :: ls) ls.length false ++ hxC n 0 false false false ++ [(GC', 1, 1, hv (.lit false)), (GC', 3, 2, h0)])) (lc := [(AK', 11, A4' AK' 11, lNl P off w.length (l0 :: ls) m t n ls.length L)]) kNx rfl (fun F hF => A5' (CJ' hW hF hw hl h) (A5' (DS' hF) (A5' (D9' hW hF) (A5' (E6' hW hF hl0 hline) (AP' (L4' hF (by omega) (by rw [hsz0]; rfl))))))) (fun F hF => BE' (OL' hW hF _ _ _ rfl hls (by omega) m t n hh hne)) fun F => ?_
 refine cv (XR' W P (tB (w.take n)) (sufB (tB (w.take n)) crB2) l0 m t (l0 :: ls) L off w.length n ls.length 0 F) ⟨⟨?_, (AF' (vs' := [.tuple [rqV m t (sP 1000 L.length) (sB 1001 0), bv true, iv (Int.ofNat 0)]]) (H' := [(0, pO 1002 (off + n) (w.length - n)), (1002, rB1 P), (1000, rP L), (1001, rB [])]) [(1002, 1002), (1000, 1102), (1001, 1103)] rfl rfl (yw) ⟨⟨_, rfl, by rw [Nat.mul_one]; exact E9' rfl rfl⟩, ⟨_, rfl, AJ' (by simp only [A2']) rfl⟩, ⟨_, rfl, BQ' (by simp only [A2']) rfl⟩, ⟨_, rfl, BW' rfl rfl⟩, t0⟩).fits rfl⟩⟩
 simp only [Cnd.holds, A2', g1, g2, e1, e2, e3, sv, AV.strOf, hwr, e4, Nat.sub_self, Nat.blt_eq, true_and, and_true]
 and_intros
 all_goals first
  | exact AG' hwa
  | exact hr1
  | exact hr2
  | exact hs1
  | exact hs2
  | exact row
  | exact slw
  | exact n0
  | decide
  | exact A1' (decide_eq_true (by simp only [Z0, Z1]; omega))
  | exact A1' (decide_eq_false (by simp only [Z0, Z1]; omega))
  | (rw [A2']; exact o0) | (with_reducible first | exact t0 | exact r0 | exact A6' _ | assumption) | exact r0 | ((repeat (first | exact VW.nil | refine c1 ?_ | refine c2 ?_ | refine c3 ?_)); done)
theorem nx9z (hh : ls = []) : Tri Tryz.prog W AK' [.ptr 0 0] [(0, pO 1002 off w.length), (1002, rB1 P)] (.tuple [rqV m t nilP (sB 1001 0), bv true, iv (Int.ofNat 0)]) [(0, pO 1002 (off + n) (w.length - n)), (1002, rB1 P), (1001, rB [])] := by
 have hs1l : (w.take n).length = n := by rw [List.length_take]; omega
 have hs1 : (tB (w.take n)).size ≤ 9223372036854775807 := by rw [BC', hs1l]; omega
 have hs2' : (sufB (tB (w.take n)) crB2).size ≤ 8192 := Nat.le_trans (CA' _ _) (by rw [BC', hs1l]; exact h8)
 have hs2 : (sufB (tB (w.take n)) crB2).size < 4294967281 := by omega
 have hsz : ∀ x ∈ l0 :: ls, x.size ≤ 8192 := fun x hx => Nat.le_trans (BP' (s := sufB (tB (w.take n)) crB2) (t := crB) (by rw [← hM] at hx; exact hx)) hs2'
 have hl0 : l0.size ≤ 8192 := hsz _ List.mem_cons_self
 have hls : ∀ x ∈ ls, x.size ≤ 8192 := fun x hx => hsz _ (List.mem_cons_of_mem _ hx)
 have hln : ls.length ≤ 8192 := by
  have := CQ' (sufB (tB (w.take n)) crB2) crB (by decide)
  have e : splB (sufB (tB (w.take n)) crB2) crB = l0 :: ls := hM
  rw [e, List.length_cons] at this
  omega
 have hr1 : off + n ≤ (rowV encB P).length := by rw [BR']; omega
 have hr2 : List.take n (List.drop off (rowV encB P)) = vmap ((tB (w.take n)).data.toList.map fun b => Value.int IntKind.u8 (b.toNat : Int)) := by rw [C0', hw, BZ', B1', BL']
 have row : OW (AO.cells (vmap (List.map Value.string (splB (sufB (tB (w.take n)) crB2) (ByteArray.mk (Array.mk [13, 10]))))) tStr) (AO.cells (rowV encS (l0 :: ls)) tStr) := by
  have e : splB (sufB (tB (w.take n)) crB2) (ByteArray.mk (Array.mk [13, 10])) = l0 :: ls := hM
  rw [e]; exact BB' (HE' _).symm
 have slw : Wk (AV.slice 1101 0 (List.map Value.string (splB (sufB (tB (w.take n)) crB2) (ByteArray.mk (Array.mk [13, 10])))).length 1 (Cp.lo (List.map Value.string (splB (sufB (tB (w.take n)) crB2) (ByteArray.mk (Array.mk [13, 10])))).length)) (AV.slice 1101 0 (ls.length + 1) 1 (Cp.lo (ls.length + 1))) := by
  have e : splB (sufB (tB (w.take n)) crB2) (ByteArray.mk (Array.mk [13, 10])) = l0 :: ls := hM
  rw [e, List.length_map]; exact w0
 have g1 : ∀ d, (rowV encS (l0 :: ls)).getD 0 d = sv l0 := fun d => rfl
 have g2 : Nat.blt 0 (rowV encS (l0 :: ls)).length = true := by rw [C5', Nat.blt_eq]; exact Nat.succ_pos _
 have e1 : n.ble w.length = true := by rw [Nat.ble_eq]; exact hn
 have e2 : w.length.ble w.length = true := by rw [Nat.ble_eq]; exact n0
 have e3 : (ls.length + 1).ble (ls.length + 1) = true := by rw [Nat.ble_eq]; exact n0
 subst hh
 have hwr := CP' hn (by omega)
 have hwa := DL' (a := n) (b := 0) (by omega)
 have e4 : n.ble n = true := by rw [Nat.ble_eq]; exact n0
 have yw : VW [AV.tuple [AV.agg [sv m, sv t, nilP, AV.slice 1102 0 0 1 (Cp.ex 0)], bv true, iv (Int.ofNat 0)]] [AV.tuple [AV.agg [sv m, sv t, nilP, AV.slice 1102 0 0 1 (Cp.lo 0)], bv true, iv (Int.ofNat 0)]] := VW.cons (B8' (VW.cons (aI' (VW.cons w0 (VW.cons w0 (VW.cons w0 (VW.cons (CY' (n0)) VW.nil))))) (VW.cons w0 (VW.cons w0 VW.nil)))) VW.nil
 refine AA' (con := cA P off w.length n l0 m t true ++ [(fLen, hZ' m t)]) (hints := AB' (hxA false false false false ++ hxB (tB (w.take n)) (sufB (tB (w.take n)) crB2) l0 [l0] 0 false ++ hxC n 0 false false false ++ [(GC', 1, 1, hv (.lit false)), (GC', 3, 2, h0)])) (lc := [(AK', 11, A4' AK' 11, lNlZ P off w.length [l0] m t n 0)]) kNx rfl (fun F hF => A5' (CJ' hW hF hw hl h) (A5' (DS' hF) (A5' (D9' hW hF) (A5' (E6' hW hF hl0 hline) (AP' (ZP' hF)))))) (fun F hF => BE' (gQ' hF P off w.length [l0] m t n)) fun F => ?_
 refine cv (XP' W P (tB (w.take n)) (sufB (tB (w.take n)) crB2) l0 m t [l0] [] off w.length n 0 0 F) ⟨⟨?_, (AF' (vs' := [.tuple [rqV m t nilP (sB 1001 0), bv true, iv (Int.ofNat 0)]]) (H' := [(0, pO 1002 (off + n) (w.length - n)), (1002, rB1 P), (1001, rB [])]) [(1002, 1002), (1001, 1102)] rfl rfl (yw) ⟨⟨_, rfl, by rw [Nat.mul_one]; exact E9' rfl rfl⟩, ⟨_, rfl, AJ' (by simp only [A2']) rfl⟩, ⟨_, rfl, BW' rfl rfl⟩, t0⟩).fits rfl⟩⟩
 simp only [Cnd.holds, A2', g1, g2, e1, e2, e3, sv, AV.strOf, hwr, e4, Nat.sub_self, Nat.blt_eq, true_and, and_true]
 and_intros
 all_goals first
  | exact AG' hwa
  | exact hr1
  | exact hr2
  | exact hs1
  | exact hs2
  | exact row
  | exact slw
  | exact n0
  | decide
  | exact A1' (decide_eq_true (by simp only [Z0, Z1]; omega))
  | exact A1' (decide_eq_false (by simp only [Z0, Z1]; omega))
  | (rw [A2']; exact o0) | (with_reducible first | exact t0 | exact r0 | exact A6' _ | assumption) | exact r0 | ((repeat (first | exact VW.nil | refine c1 ?_ | refine c2 ?_ | refine c3 ?_)); done)
end
theorem OK' : GO' [13, 10] = [nil0, nil0] := by kernel_rfl
theorem K1' : lnB nil0 = none := by kernel_rfl
theorem QH' {w : List UInt8} {n : Nat} (h : hdN w = some n) : (n = 2 ∧ w.take n = [13, 10]) ∨ 4 ≤ n := by
 unfold hdN at h
 split at h
 ·rename_i hp
  cases h
  obtain ⟨r, hr⟩ := List.isPrefixOf_iff_prefix.1 hp
  refine .inl ⟨rfl, ?_⟩
  rw [← hr]
  rfl
 ·cases hf : f4 w with
  | none => rw [hf] at h; cases h
  | some k =>
   rw [hf] at h
   have h : k + 4 = n := Option.some.inj h
   exact .inr (by omega)
theorem G2' (w : List UInt8) : ∃ l0 ls, GO' w = l0 :: ls := by
 have := X6' (sufB (tB w) crB2) crB (by decide)
 cases h : GO' w with
 | nil => unfold GO' at h; rw [h] at this; exact absurd this (Nat.lt_irrefl _)
 | cons a b => exact ⟨a, b, rfl⟩
theorem OR' {ls : List ByteArray} (h : C7' [] ls = some []) : ls = [] := by
 have := BI' h
 simp only [List.length_nil, Nat.zero_add] at this
 exact List.eq_nil_of_length_eq_zero this.symm
def hsH (L : Hds) (B : List UInt8) : LH := match L with
 | [] => [(1001, rB B)]
 | x :: r => [(1000, rP (x :: r)), (1001, rB B)]
section
variable {W : World} (hW : LW W) {P w : List UInt8} {off : Nat} (hw : P.drop off = w) (hl : w.length ≤ 4000000) (hoff : off + w.length = P.length)
include hW hw hl hoff
theorem nx_no {s : Nat} (h : DJ' hdB w = .no s) : Tri Tryz.prog W AK' [.ptr 0 0] [(0, pO 1002 off w.length), (1002, rB1 P)] (noV s) [(0, pO 1002 off w.length), (1002, rB1 P)] := by
 unfold DJ' at h
 cases hn : hdN w with
 | none =>
  have hz : DP' w = 3 := by unfold DP'; rw [hn]
  rw [hn] at h
  simp only at h
  split at h
  ·rename_i h8
   cases h
   exact nx1 hW hw hl hz h8
  ·rename_i h8
   cases h
   exact nx2 hW hw hl hz h8
 | some n =>
  have hz : DP' w = Int.ofNat n := by unfold DP'; rw [hn]; rfl
  obtain ⟨n2, nw⟩ := GR' hn
  rw [hn] at h
  simp only at h
  split at h
  ·rename_i h8
   cases h
   exact nx3 hW hw hl hz h8
  ·rename_i h8
   have h8 : n ≤ 8192 := Nat.le_of_not_lt h8
   obtain ⟨l0, ls, hM⟩ := G2' (w.take n)
   have hh : hdB (w.take n) = hdL (l0 :: ls) := by unfold hdB; rw [hM]
   rw [hh] at h
   unfold hdL at h
   simp only at h
   cases hline : lnB l0 with
   | none =>
    rw [hline] at h
    cases h
    rcases QH' hn with ⟨e, _⟩ | h4
    ·exact nx4b hW hw hl hz nw h8 hoff hM e hline
    ·exact nx4 hW hw hl hz nw h8 hoff hM h4 hline
   | some p =>
    obtain ⟨m, t⟩ := p
    have h4 : 4 ≤ n := by
     rcases QH' hn with ⟨e, e2⟩ | h4
     ·rw [e2, OK'] at hM
      obtain rfl := (List.cons.inj hM).1
      rw [K1'] at hline
      cases hline
     ·exact h4
    rw [hline] at h
    simp only at h
    cases hd : C7' [] ls with
    | none =>
     rw [hd] at h
     cases h
     exact nx5 hW hw hl hz nw h8 hoff hM h4 hline hd
    | some L =>
     rw [hd] at h
     simp only at h
     have hne : lenB L ≠ some 0 → L ≠ [] := fun h e => h (by rw [e]; rfl)
     cases hL : lenB L with
     | none =>
      rw [hL] at h
      cases h
      exact nx6 hW hw hl hz nw h8 hoff hM h4 hline hd (hne (by rw [hL]; intro e; cases e)) hL
     | some sz =>
      rw [hL] at h
      simp only at h
      by_cases hb : 65536 < sz
      ·rw [if_pos hb] at h
       cases h
       exact nx7 hW hw hl hz nw h8 hoff hM h4 hline hd (hne (by rw [hL]; intro e; cases e; omega)) hL hb
      ·rw [if_neg hb] at h
       simp only at h
       split at h
       ·rename_i hs
        cases h
        exact nx8 hW hw hl hz nw h8 hoff hM h4 hline hd (hne (by rw [hL]; intro e; cases e; omega)) hL (Nat.le_of_not_lt hb) hs
       ·cases h
theorem nx_yes {m t : ByteArray} {L : Hds} {B : List UInt8} {k : Nat} (h : DJ' hdB w = .yes (m, t, L) B k) : Tri Tryz.prog W AK' [.ptr 0 0] [(0, pO 1002 off w.length), (1002, rB1 P)] (yesV m t L B) ((0, pO 1002 (off + k) (w.drop k).length) :: (1002, rB1 P) :: hsH L B) := by
 unfold DJ' at h
 cases hn : hdN w with
 | none =>
  rw [hn] at h
  simp only at h
  split at h <;> cases h
 | some n =>
  have hz : DP' w = Int.ofNat n := by unfold DP'; rw [hn]; rfl
  obtain ⟨n2, nw⟩ := GR' hn
  rw [hn] at h
  simp only at h
  split at h
  ·cases h
  ·rename_i h8
   have h8 : n ≤ 8192 := Nat.le_of_not_lt h8
   obtain ⟨l0, ls, hM⟩ := G2' (w.take n)
   have hh : hdB (w.take n) = hdL (l0 :: ls) := by unfold hdB; rw [hM]
   rw [hh] at h
   unfold hdL at h
   simp only at h
   cases hline : lnB l0 with
   | none => rw [hline] at h; cases h
   | some p =>
    obtain ⟨m', t'⟩ := p
    have h4 : 4 ≤ n := by
     rcases QH' hn with ⟨e, e2⟩ | h4
     ·rw [e2, OK'] at hM
      obtain rfl := (List.cons.inj hM).1
      rw [K1'] at hline
      cases hline
     ·exact h4
    rw [hline] at h
    simp only at h
    cases hd : C7' [] ls with
    | none => rw [hd] at h; cases h
    | some L' =>
     rw [hd] at h
     simp only at h
     cases hL : lenB L' with
     | none => rw [hL] at h; cases h
     | some sz =>
      rw [hL] at h
      simp only at h
      by_cases hb : 65536 < sz
      ·rw [if_pos hb] at h; cases h
      ·rw [if_neg hb] at h
       simp only at h
       split at h
       ·cases h
       ·rename_i hs
        cases h
        have hb := Nat.le_of_not_lt hb
        have hs := Nat.le_of_not_lt hs
        rw [List.length_drop]
        unfold yesV hsV hsH
        by_cases h0 : sz = 0
        ·subst h0
         rw [List.take_zero]
         cases L with
         | nil =>
          have := nx9z hW hw hl hz nw h8 hoff hM h4 hline (OR' hd)
          exact this
         | cons x r =>
          have := nx9e hW hw hl hz nw h8 hoff hM h4 hline hd (by intro e; cases e) hL
          exact this
        ·have hBl : ((w.drop n).take sz).length = sz := by rw [List.length_take, List.length_drop]; omega
         rw [hBl]
         cases L with
         | nil => exact absurd (Option.some.inj hL).symm h0
         | cons x r =>
          have := nx9r hW hw hl hz nw h8 hoff hM h4 hline hd (by intro e; cases e) hL hb hs (by omega)
          exact this
end
theorem hsH_ok (L : Hds) (B : List UInt8) : (getO (hsH L B) 0).isNone = true ∧ (getO (hsH L B) 1002).isNone = true ∧ AT' 1100 (hsH L B) = true := by cases L <;> exact ⟨rfl, rfl, rfl⟩
theorem hsH_cl (L : Hds) (B : List UInt8) (K : Nat → Bool) : ∀ x ∈ hsH L B, x.2.cl K := by
 cases L with
 | nil => exact A0' (CE' _ _) A3'
 | cons x r => exact A0' (BN' _ _) (A0' (CE' _ _) A3')
theorem US' (K : Nat → Bool) (s : Nat) : AV.cls K [noV s] := ⟨⟨⟨t0, t0, t0, t0, t0⟩, t0, t0, t0⟩, t0⟩
theorem iB' {W : World} (hW : LW W) {w : List UInt8} (hl : w.length ≤ 4000000) {s : Nat} (h : DJ' hdB w = .no s) : Tri Tryz.prog W AK' [.ptr 0 0] [(0, parO w)] (noV s) [(0, parO w)] := by
 refine K0' (H0 := []) ⟨rfl, rfl, rfl⟩ (fun e => ?_) (fun P off h1 h2 => ?_)
 ·subst e
  have : s = 0 := by
   have h : (Rs.no 0 : Rs Rq0) = .no s := h
   cases h; rfl
  subst this
  exact Tri.post (fun W0 F N w0 vargs hF => WU' W0 F N w0 vargs (AE'.nothing F)) (KC' (H0 := []) ⟨rfl, rfl, rfl⟩ (US' _ _) (fun x hx => by cases hx))
 ·exact Tri.post (nx_no hW h1 hl h2 h) (H1' (H0 := []) ⟨rfl, rfl, rfl⟩ h1 h2 (US' _ _) (fun x hx => by cases hx))
theorem SS' {W : World} (hW : LW W) {w : List UInt8} (hl : w.length ≤ 4000000) {m t : ByteArray} {L : Hds} {B : List UInt8} {k : Nat} (h : DJ' hdB w = .yes (m, t, L) B k) : Tri Tryz.prog W AK' [.ptr 0 0] [(0, parO w)] (yesV m t L B) ((0, parO (w.drop k)) :: hsH L B) := by
 refine K0' (H0 := []) ⟨rfl, rfl, rfl⟩ (fun e => ?_) (fun P off h1 h2 => ?_)
 ·subst e
  have h : (Rs.no 0 : Rs Rq0) = .yes (m, t, L) B k := h
  cases h
 ·have hk := (S1' hdB [] h).2.2
  refine Tri.post (nx_yes hW h1 hl h2 h) (H1' (H0 := hsH L B) (hsH_ok L B) (by rw [← h1, List.drop_drop]) (by rw [List.length_drop]; omega) ?_ (hsH_cl L B _))
  cases L with
  | nil => exact ⟨⟨⟨t0, t0, t0, rfl, t0⟩, t0, t0, t0⟩, t0⟩
  | cons x r => exact ⟨⟨⟨t0, t0, rfl, rfl, t0⟩, t0, t0, t0⟩, t0⟩
def gFe : List AV → AP (Nat × Nat) := fun args => match args with
 | [.ptr p _, .slice x _ _ _ _] => .ret (p, x)
 | _ => .fail "feed"
theorem gFe_ro : ∀ args, RO (gFe args) := by
 intro args
 unfold gFe
 split
 ·exact RO.ret _
 ·exact RO.fail _
theorem XG' {y : List AV} {x : List UInt8} {σ : Nat → Nat} (h : y = rowV encB x) : OW (.cells y tByt) ((rB1 x).ren σ) := by rw [Q7']; subst h; exact aP' x
theorem OH' (off : Nat) : MX' off (tByt + 1) = tByt + 1 := by cases off <;> rfl
theorem rB1_mv {y : List AV} {x : List UInt8} {σ : Nat → Nat} {off : Nat} (h : y = rowV encB x) : OW (.cells y (MX' off (tByt + 1))) ((rB1 x).ren σ) := by rw [Q7', OH']; subst h; exact o0
theorem Q2' (x : List UInt8) : List.take x.length (List.drop 0 (rowV encB x)) = rowV encB x := by
 rw [List.drop_zero, List.take_of_length_le (by rw [BR']; exact n0)]
end Go.Proofs.YtpijbbobejeemaaGreatDoor.Htp
