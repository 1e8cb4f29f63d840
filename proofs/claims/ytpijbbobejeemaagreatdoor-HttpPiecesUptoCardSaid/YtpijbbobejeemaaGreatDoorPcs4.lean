/- Parts of the proof, merged. -/
import Derived.Test.YtpijbbobejeemaaGreatDoorPcs3
/- Http: Next: runs. -/
set_option linter.unusedVariables false
set_option linter.unusedSimpArgs false
set_option maxRecDepth 100000
namespace Go.Proofs.YtpijbbobejeemaaGreatDoor.Htp
open Go Go.RowKit Go.Proofs.YtpijbbobejeemaaGreatDoor.Eng Go.Proofs.YtpijbbobejeemaaGreatDoor.Kit
noncomputable section
abbrev fNext : Nat := 11
abbrev fClone : Nat := 31
def gP1 : List AV → AP Nat := fun args => match args with
  | [.ptr a _] => .ret a
  | _ => .fail "parser"
def gP2 : List AV → AP Nat := fun args => match args with
  | [_, .ptr a _] => .ret a
  | _ => .fail "request"
def gPr : List AV → AP (Nat × Nat) := fun args => match args with
  | [.ptr a _] => .read a fun o => match o with
    | .cells [.slice b _ _ _ _] _ => .ret (a, b)
    | _ => .fail "parser's octets"
  | _ => .fail "parser"
def gHr : List AV → AP (Nat × Nat) := fun args => match args with
  | [_, .ptr a _] => .read a fun o => match o with
    | .cells [_, _, .slice b _ _ _ _, _] _ => .ret (a, b)
    | _ => .fail "request's headers"
  | _ => .fail "request"
def gLr : List AV → AP Nat := fun args => match args with
  | [.agg [_, _, .slice a _ _ _ _, _]] => .ret a
  | _ => .fail "length"
def nm01 (p : Nat × Nat) : Nat → Nat := fun k => match Nat.beq k 0 with
  | true => p.1
  | false => match Nat.beq k 1 with
    | true => p.2
    | false => k
def nm0k (p : Nat × Nat) : Nat → Nat := fun k => match Nat.beq k 0 with
  | true => p.1
  | false => match Nat.beq k 1000 with
    | true => p.2
    | false => k
def cHead (L : List UInt8) (off n : Nat) (z : Int) : List AV → Option (AP AV) := mkC gPr (fun _ => True) nm01 (fun _ => [.ptr 0 0]) (fun _ => [(0, pO 1 off n), (1, rB1 L)]) (fun _ => .leaf .ret [iv z] [(0, pO 1 off n), (1, rB1 L)])
def cHead0 : List AV → Option (AP AV) := mkC gP1 (fun _ => True) nm0 (fun _ => [.ptr 0 0]) (fun _ => [(0, pZ)]) (fun _ => .leaf .ret [iv 3] [(0, pZ)])
def cLine (s m t : ByteArray) (b : Bool) : List AV → Option (AP AV) := mkC gP2 (fun _ => True) nm0 (fun _ => [sv s, .ptr 0 0]) (fun _ => [(0, rqO nil0 nil0 nilP nilB)]) (fun _ => .leaf .ret [bv b] [(0, rqO m t nilP nilB)])
def cHdZ (m t s k v : ByteArray) : List AV → Option (AP AV) := mkC gP2 (fun _ => True) nm0 (fun _ => [sv s, .ptr 0 0]) (fun _ => [(0, rqO m t nilP nilB)]) (fun _ => .leaf .ret [bv true] [(0, rqO m t (sP 1000 1) nilB), (1000, rP [(k, v)])])
def cHdZx (m t s : ByteArray) : List AV → Option (AP AV) := mkC gP2 (fun _ => True) nm0 (fun _ => [sv s, .ptr 0 0]) (fun _ => [(0, rqO m t nilP nilB)]) (fun _ => .leaf .ret [bv false] [(0, rqO m t nilP nilB)])
def cHdR (L L' : Hds) (m t s : ByteArray) (b : Bool) : List AV → Option (AP AV) := mkC gHr (fun _ => True) nm0k (fun _ => [sv s, .ptr 0 0]) (fun _ => [(0, rqO m t (sP 1000 L.length) nilB), (1000, rP L)]) (fun _ => .leaf .ret [bv b] [(0, rqO m t (sP 1000 L'.length) nilB), (1000, rP L')])
def cLen (L : Hds) (m t : ByteArray) (z : Int) (b : Bool) : List AV → Option (AP AV) := mkC gLr (fun _ => True) nm0 (fun _ => [rqV m t (sP 0 L.length) nilB]) (fun _ => [(0, rP L)]) (fun _ => .leaf .ret [.tuple [iv z, bv b]] [(0, rP L)])
def cLen0 (m t : ByteArray) : List AV → Option (AP AV) := mkC (fun _ => .ret ()) (fun _ => True) (fun _ k => k) (fun _ => [rqV m t nilP nilB]) (fun _ => []) (fun _ => .leaf .ret [.tuple [iv (Int.ofNat 0), bv true]] [])
/-! the loop over the header lines -/
def aNl (n k i : Nat) : List (Nat × AV) := [(0, .ptr 2 0), (2, .ptr 0 0), (5, iv (Int.ofNat n)), (55, .slice 1 1 k 1 (.lo k)), (56, iv (Int.ofNat k)), (57, iv (Int.ofNat i))]
def kNl : List Nat := [0, 1, 2, 3, 1000, 1100, 1101]
def iNl : List Nat := [0, 2, 3, 4, 5, 55, 56, 57]
def hNl (s : ByteArray) (i : Nat) (b : Bool) : ClaimT := hintL [(fNext, 11, 0, hv (.lit true)), (fNext, 12, 1, hv (sv s)), (fNext, 13, 2, hv (.lit b)), (fNext, 15, 0, hv (iv (Int.ofNat (i + 1))))]
theorem oNlZ_eq (W : World) (P : List UInt8) (off len : Nat) (M : List ByteArray) (m t s k v : ByteArray) (n r i : Nat) (F : HP) : wLoop [(fHdr, cHdZ m t s k v)] (hNl s i false) [] W fNext (loopN fNext 11) (tms 0 113 (aNl n r i)) [(0, rqO m t nilP nilB), (1, rS M), (2, pO 3 off len), (3, rB1 P)] kNl iNl F = VT.leaf (AX.normal, [AV.ptr 2 0, AV.ptr 0 0, AV.any, AV.any, AV.v (Value.int IntKind.i64 (Int.ofNat n)), AV.slice 1 1 r 1 (Cp.lo r), AV.v (Value.int IntKind.i64 (Int.ofNat r)), AV.v (Value.int IntKind.i64 (Int.ofNat (i + 1)))], 113) [some (AO.cells [AV.v (Value.string m), AV.v (Value.string t), AV.slice 1100 0 1 2 (Cp.lo 1), AV.v (Value.slice none 0 0)] 64), some (AO.cells (rowV encS M) 18), some (AO.cells [AV.slice 3 off len 1 (Cp.lo len)] 122), some (AO.cells (rowV encB P) 11), none, some (AO.cells [AV.v (Value.string k), AV.v (Value.string v)] 78), none] 1101 (((Cnd.p (Wk (AV.v (Value.bool (decide (Int.ofNat i < Int.ofNat r)))) (AV.lit true))).a Cnd.t).a (((Cnd.p (i.blt r = true)).a Cnd.t).a (((Cnd.p ((1 + i * 1).blt (rowV encS M).length = true)).a ((Cnd.p ((rowV encS M).getD (1 + i * 1) (AV.undef) = AV.v (Value.string ((rowV encS M).getD (1 + i * 1) (AV.undef)).strOf))).a ((Cnd.p (Wk (AV.v (Value.string ((rowV encS M).getD (1 + i * 1) (AV.undef)).strOf)) (AV.v (Value.string s)))).a Cnd.t))).a (((Cnd.p True).a ((Cnd.p (VW [AV.v (Value.string s), AV.ptr 0 0] [AV.v (Value.string s), AV.ptr 0 0])).a ((Cnd.p (OW (AO.cells [AV.v (Value.string m), AV.v (Value.string t), AV.v (Value.slice none 0 0), AV.v (Value.slice none 0 0)] 64) (AO.cells [AV.v (Value.string m), AV.v (Value.string t), AV.v (Value.slice none 0 0), AV.v (Value.slice none 0 0)] 64))).a Cnd.t))).a (((Cnd.p (Wk (AV.v (Value.bool false)) (AV.lit false))).a Cnd.t).a (((Cnd.p (Wk (AV.v (Value.int IntKind.i64 (IntKind.i64.wrap (Int.ofNat i + Int.ofNat 1)))) (AV.v (Value.int IntKind.i64 (Int.ofNat (i + 1)))))).a Cnd.t).a Cnd.t)))))) := by kernel_rfl
theorem oNlZx_eq (W : World) (P : List UInt8) (off len : Nat) (M : List ByteArray) (m t s : ByteArray) (n r i : Nat) (F : HP) : wLoop [(fHdr, cHdZx m t s)] (hNl s i true) [] W fNext (loopN fNext 11) (tms 0 113 (aNl n r i)) [(0, rqO m t nilP nilB), (1, rS M), (2, pO 3 off len), (3, rB1 P)] kNl iNl F = VT.leaf (AX.ret, [AV.ptr 2 0, AV.ptr 0 0, AV.v (Value.bool false), AV.v (Value.int IntKind.i64 (Int.ofNat 400)), AV.v (Value.int IntKind.i64 (Int.ofNat n)), AV.slice 1 1 r 1 (Cp.lo r), AV.v (Value.int IntKind.i64 (Int.ofNat r)), AV.v (Value.int IntKind.i64 (Int.ofNat i))], 113) [some (AO.cells [AV.v (Value.string (ByteArray.mk (Array.mk []))), AV.v (Value.string (ByteArray.mk (Array.mk []))), AV.v (Value.slice none 0 0), AV.v (Value.slice none 0 0)] 64), some (AO.cells (rowV encS M) 18), some (AO.cells [AV.slice 3 off len 1 (Cp.lo len)] 122), some (AO.cells (rowV encB P) 11), none, none, none] 1100 (((Cnd.p (Wk (AV.v (Value.bool (decide (Int.ofNat i < Int.ofNat r)))) (AV.lit true))).a Cnd.t).a (((Cnd.p (i.blt r = true)).a Cnd.t).a (((Cnd.p ((1 + i * 1).blt (rowV encS M).length = true)).a ((Cnd.p ((rowV encS M).getD (1 + i * 1) (AV.undef) = AV.v (Value.string ((rowV encS M).getD (1 + i * 1) (AV.undef)).strOf))).a ((Cnd.p (Wk (AV.v (Value.string ((rowV encS M).getD (1 + i * 1) (AV.undef)).strOf)) (AV.v (Value.string s)))).a Cnd.t))).a (((Cnd.p True).a ((Cnd.p (VW [AV.v (Value.string s), AV.ptr 0 0] [AV.v (Value.string s), AV.ptr 0 0])).a ((Cnd.p (OW (AO.cells [AV.v (Value.string m), AV.v (Value.string t), AV.v (Value.slice none 0 0), AV.v (Value.slice none 0 0)] 64) (AO.cells [AV.v (Value.string m), AV.v (Value.string t), AV.v (Value.slice none 0 0), AV.v (Value.slice none 0 0)] 64))).a Cnd.t))).a (((Cnd.p (Wk (AV.v (Value.bool true)) (AV.lit true))).a Cnd.t).a (((Cnd.p (true = true)).a Cnd.t).a Cnd.t)))))) := by kernel_rfl
theorem oNlZe_eq (W : World) (P : List UInt8) (off len : Nat) (M : List ByteArray) (m t : ByteArray) (n r : Nat) (F : HP) : wLoop [] (hintL [(fNext, 11, 0, hv (.lit false))]) [] W fNext (loopN fNext 11) (tms 0 113 (aNl n r r)) [(0, rqO m t nilP nilB), (1, rS M), (2, pO 3 off len), (3, rB1 P)] kNl iNl F = VT.leaf (AX.exit 1, [AV.ptr 2 0, AV.ptr 0 0, AV.any, AV.any, AV.v (Value.int IntKind.i64 (Int.ofNat n)), AV.slice 1 1 r 1 (Cp.lo r), AV.v (Value.int IntKind.i64 (Int.ofNat r)), AV.v (Value.int IntKind.i64 (Int.ofNat r))], 113) [some (AO.cells [AV.v (Value.string m), AV.v (Value.string t), AV.v (Value.slice none 0 0), AV.v (Value.slice none 0 0)] 64), some (AO.cells (rowV encS M) 18), some (AO.cells [AV.slice 3 off len 1 (Cp.lo len)] 122), some (AO.cells (rowV encB P) 11), none, none, none] 1100 (((Cnd.p (Wk (AV.v (Value.bool (decide (Int.ofNat r < Int.ofNat r)))) (AV.lit false))).a Cnd.t).a Cnd.t) := by kernel_rfl
theorem oNlR_eq (W : World) (P : List UInt8) (off len : Nat) (M : List ByteArray) (L L' : Hds) (m t s : ByteArray) (n r i : Nat) (F : HP) : wLoop [(fHdr, cHdR L L' m t s true)] (hNl s i false) [] W fNext (loopN fNext 11) (tms 0 113 (aNl n r i)) [(0, rqO m t (sP 1000 L.length) nilB), (1, rS M), (2, pO 3 off len), (3, rB1 P), (1000, rP L)] kNl iNl F = VT.leaf (AX.normal, [AV.ptr 2 0, AV.ptr 0 0, AV.any, AV.any, AV.v (Value.int IntKind.i64 (Int.ofNat n)), AV.slice 1 1 r 1 (Cp.lo r), AV.v (Value.int IntKind.i64 (Int.ofNat r)), AV.v (Value.int IntKind.i64 (Int.ofNat (i + 1)))], 113) [some (AO.cells [AV.v (Value.string m), AV.v (Value.string t), AV.slice 1100 0 (List.length L') 2 (Cp.lo (List.length L')), AV.v (Value.slice none 0 0)] 64), some (AO.cells (rowV encS M) 18), some (AO.cells [AV.slice 3 off len 1 (Cp.lo len)] 122), some (AO.cells (rowV encB P) 11), none, some (AO.cells (AV.rens (sgN (nm0k (0, 1000)) [1000] 1100) (rowV encP L')) 78), none] 1101 (((Cnd.p (Wk (AV.v (Value.bool (decide (Int.ofNat i < Int.ofNat r)))) (AV.lit true))).a Cnd.t).a (((Cnd.p (i.blt r = true)).a Cnd.t).a (((Cnd.p ((1 + i * 1).blt (rowV encS M).length = true)).a ((Cnd.p ((rowV encS M).getD (1 + i * 1) (AV.undef) = AV.v (Value.string ((rowV encS M).getD (1 + i * 1) (AV.undef)).strOf))).a ((Cnd.p (Wk (AV.v (Value.string ((rowV encS M).getD (1 + i * 1) (AV.undef)).strOf)) (AV.v (Value.string s)))).a Cnd.t))).a (((Cnd.p True).a ((Cnd.p (VW [AV.v (Value.string s), AV.ptr 0 0] [AV.v (Value.string s), AV.ptr 0 0])).a ((Cnd.p (OW (AO.cells [AV.v (Value.string m), AV.v (Value.string t), AV.slice 1000 0 (List.length L) 2 (Cp.lo (List.length L)), AV.v (Value.slice none 0 0)] 64) (AO.cells [AV.v (Value.string m), AV.v (Value.string t), AV.slice 1000 0 (List.length L) 2 (Cp.lo (List.length L)), AV.v (Value.slice none 0 0)] 64))).a ((Cnd.p (OW (AO.cells (rowV encP L) 78) (AO.cells (AV.rens (nm0k (0, 1000)) (rowV encP L)) 78))).a Cnd.t)))).a (((Cnd.p (Wk (AV.v (Value.bool false)) (AV.lit false))).a Cnd.t).a (((Cnd.p (Wk (AV.v (Value.int IntKind.i64 (IntKind.i64.wrap (Int.ofNat i + Int.ofNat 1)))) (AV.v (Value.int IntKind.i64 (Int.ofNat (i + 1)))))).a Cnd.t).a Cnd.t)))))) := by kernel_rfl
theorem oNlRx_eq (W : World) (P : List UInt8) (off len : Nat) (M : List ByteArray) (L : Hds) (m t s : ByteArray) (n r i : Nat) (F : HP) : wLoop [(fHdr, cHdR L L m t s false)] (hNl s i true) [] W fNext (loopN fNext 11) (tms 0 113 (aNl n r i)) [(0, rqO m t (sP 1000 L.length) nilB), (1, rS M), (2, pO 3 off len), (3, rB1 P), (1000, rP L)] kNl iNl F = VT.leaf (AX.ret, [AV.ptr 2 0, AV.ptr 0 0, AV.v (Value.bool false), AV.v (Value.int IntKind.i64 (Int.ofNat 400)), AV.v (Value.int IntKind.i64 (Int.ofNat n)), AV.slice 1 1 r 1 (Cp.lo r), AV.v (Value.int IntKind.i64 (Int.ofNat r)), AV.v (Value.int IntKind.i64 (Int.ofNat i))], 113) [some (AO.cells [AV.v (Value.string (ByteArray.mk (Array.mk []))), AV.v (Value.string (ByteArray.mk (Array.mk []))), AV.v (Value.slice none 0 0), AV.v (Value.slice none 0 0)] 64), some (AO.cells (rowV encS M) 18), some (AO.cells [AV.slice 3 off len 1 (Cp.lo len)] 122), some (AO.cells (rowV encB P) 11), none, some (AO.cells (AV.rens (sgN (nm0k (0, 1000)) [1000] 1100) (rowV encP L)) 78), none] 1101 (((Cnd.p (Wk (AV.v (Value.bool (decide (Int.ofNat i < Int.ofNat r)))) (AV.lit true))).a Cnd.t).a (((Cnd.p (i.blt r = true)).a Cnd.t).a (((Cnd.p ((1 + i * 1).blt (rowV encS M).length = true)).a ((Cnd.p ((rowV encS M).getD (1 + i * 1) (AV.undef) = AV.v (Value.string ((rowV encS M).getD (1 + i * 1) (AV.undef)).strOf))).a ((Cnd.p (Wk (AV.v (Value.string ((rowV encS M).getD (1 + i * 1) (AV.undef)).strOf)) (AV.v (Value.string s)))).a Cnd.t))).a (((Cnd.p True).a ((Cnd.p (VW [AV.v (Value.string s), AV.ptr 0 0] [AV.v (Value.string s), AV.ptr 0 0])).a ((Cnd.p (OW (AO.cells [AV.v (Value.string m), AV.v (Value.string t), AV.slice 1000 0 (List.length L) 2 (Cp.lo (List.length L)), AV.v (Value.slice none 0 0)] 64) (AO.cells [AV.v (Value.string m), AV.v (Value.string t), AV.slice 1000 0 (List.length L) 2 (Cp.lo (List.length L)), AV.v (Value.slice none 0 0)] 64))).a ((Cnd.p (OW (AO.cells (rowV encP L) 78) (AO.cells (AV.rens (nm0k (0, 1000)) (rowV encP L)) 78))).a Cnd.t)))).a (((Cnd.p (Wk (AV.v (Value.bool true)) (AV.lit true))).a Cnd.t).a (((Cnd.p (true = true)).a Cnd.t).a Cnd.t)))))) := by kernel_rfl
theorem oNlRe_eq (W : World) (P : List UInt8) (off len : Nat) (M : List ByteArray) (L : Hds) (m t : ByteArray) (n r : Nat) (F : HP) : wLoop [] (hintL [(fNext, 11, 0, hv (.lit false))]) [] W fNext (loopN fNext 11) (tms 0 113 (aNl n r r)) [(0, rqO m t (sP 1000 L.length) nilB), (1, rS M), (2, pO 3 off len), (3, rB1 P), (1000, rP L)] kNl iNl F = VT.leaf (AX.exit 1, [AV.ptr 2 0, AV.ptr 0 0, AV.any, AV.any, AV.v (Value.int IntKind.i64 (Int.ofNat n)), AV.slice 1 1 r 1 (Cp.lo r), AV.v (Value.int IntKind.i64 (Int.ofNat r)), AV.v (Value.int IntKind.i64 (Int.ofNat r))], 113) [some (AO.cells [AV.v (Value.string m), AV.v (Value.string t), AV.slice 1000 0 (List.length L) 2 (Cp.lo (List.length L)), AV.v (Value.slice none 0 0)] 64), some (AO.cells (rowV encS M) 18), some (AO.cells [AV.slice 3 off len 1 (Cp.lo len)] 122), some (AO.cells (rowV encB P) 11), some (AO.cells (rowV encP L) 78), none, none] 1100 (((Cnd.p (Wk (AV.v (Value.bool (decide (Int.ofNat r < Int.ofNat r)))) (AV.lit false))).a Cnd.t).a Cnd.t) := by kernel_rfl
def gNl : List AV → AP ((Nat × Nat) × (Nat × Nat)) := fun tmps => match getL tmps 0, getL tmps 2, getL tmps 55 with
  | .ptr p _, .ptr a _, .slice b _ _ _ _ => .read p fun o => match o with
    | .cells [.slice q _ _ _ _] _ => .ret ((a, b), (p, q))
    | _ => .fail "parser's octets"
  | _, _, _ => .fail "lines"
def nmNl (p : (Nat × Nat) × (Nat × Nat)) : Nat → Nat := fun k => match Nat.beq k 2 with
  | true => p.2.1
  | false => match Nat.beq k 3 with
    | true => p.2.2
    | false => nm01 p.1 k
def lNl (P : List UInt8) (off len : Nat) (M : List ByteArray) (m t : ByteArray) (n r : Nat) (L : Hds) : List AV → AP (AX × List AV) := mkL gNl (fun _ => True) nmNl (fun _ => tms 0 113 (aNl n r 0)) (fun _ => [(0, rqO m t nilP nilB), (1, rS M), (2, pO 3 off len), (3, rB1 P)]) (fun _ => .leaf (.exit 1) (tms 0 113 [(0, .ptr 2 0), (2, .ptr 0 0), (5, iv (Int.ofNat n))]) [(0, rqO m t (sP 1000 L.length) nilB), (2, pO 3 off len), (3, rB1 P), (1000, rP L)])
def lNlZ (P : List UInt8) (off len : Nat) (M : List ByteArray) (m t : ByteArray) (n r : Nat) : List AV → AP (AX × List AV) := mkL gNl (fun _ => True) nmNl (fun _ => tms 0 113 (aNl n r 0)) (fun _ => [(0, rqO m t nilP nilB), (1, rS M), (2, pO 3 off len), (3, rB1 P)]) (fun _ => .leaf (.exit 1) (tms 0 113 [(0, .ptr 2 0), (2, .ptr 0 0), (5, iv (Int.ofNat n))]) [(0, rqO m t nilP nilB), (2, pO 3 off len), (3, rB1 P)])
def lNlX (P : List UInt8) (off len : Nat) (M : List ByteArray) (m t : ByteArray) (n r : Nat) : List AV → AP (AX × List AV) := mkL gNl (fun _ => True) nmNl (fun _ => tms 0 113 (aNl n r 0)) (fun _ => [(0, rqO m t nilP nilB), (1, rS M), (2, pO 3 off len), (3, rB1 P)]) (fun _ => .leaf .ret (tms 0 113 [(2, .ptr 0 0), (3, bv false), (4, iv (Int.ofNat 400))]) [(0, rqO nil0 nil0 nilP nilB), (2, pO 3 off len), (3, rB1 P)])
/-! the function -/
def hxA (c1 c2 c3 c4 : Bool) : List (Nat × Nat × Nat × Hint) := [(fNext, 2, 1, hv (.lit c1)), (fNext, 2, 4, hv (.lit c2)), (fNext, 2, 12, hv (.lit c3)), (fNext, 3, 1, hv (.lit c4)), (fNext, 5, 1, hv (.lit c1)), (fNext, 5, 4, hv (.lit c2))]
def hxB (s1 s2 l0 : ByteArray) (M : List ByteArray) (r : Nat) (b : Bool) : List (Nat × Nat × Nat × Hint) := [(fNext, 7, 6, ht s1), (fNext, 7, 7, hv (sv s2)), (fNext, 7, 8, hvo (sB 1101 (r + 1)) 1101 (rS M)), (fNext, 8, 2, hv (sv l0)), (fNext, 8, 4, hv (.lit b)), (fNext, 10, 1, hv (.slice 1101 1 r 1 (.lo r))), (fNext, 10, 2, hv (iv (Int.ofNat r)))]
def hxC (n sz : Nat) (b1 b2 b3 : Bool) : List (Nat × Nat × Nat × Hint) := [(fNext, 17, 1, hv (.lit b1)), (fNext, 19, 1, hv (.lit b2)), (fNext, 21, 8, hv (.lit b3)), (fNext, 23, 7, hv (iv (Int.ofNat (n + sz)))), (fNext, 24, 7, hv (iv (Int.ofNat (n + sz))))]
def kNx : List Nat := [0, 1002, 1100, 1101, 1102, 1103, 1104]
theorem oNx0_eq (F : HP) : wRun [(fHead, cHead0)] (hintL (hxA true true false false)) [] default fNext [.ptr 0 0] [(0, pZ)] kNx F = VT.leaf (AV.tuple [AV.agg [AV.v (Value.string (ByteArray.mk (Array.mk []))), AV.v (Value.string (ByteArray.mk (Array.mk []))), AV.v (Value.slice none 0 0), AV.v (Value.slice none 0 0)], AV.v (Value.bool false), AV.v (Value.int IntKind.i64 (Int.ofNat 0))]) [some (AO.cells [AV.v (Value.slice none 0 0)] 122), none, some (AO.cells [AV.v (Value.string (ByteArray.mk (Array.mk []))), AV.v (Value.string (ByteArray.mk (Array.mk []))), AV.v (Value.slice none 0 0), AV.v (Value.slice none 0 0)] 64), none, none, none, none] 1101 (((Cnd.p True).a ((Cnd.p (VW [AV.ptr 0 0] [AV.ptr 0 0])).a ((Cnd.p (OW (AO.cells [AV.v (Value.slice none 0 0)] 122) (AO.cells [AV.v (Value.slice none 0 0)] 122))).a Cnd.t))).a (((Cnd.p (Wk (AV.v (Value.bool true)) (AV.lit true))).a Cnd.t).a (((Cnd.p (Wk (AV.v (Value.bool true)) (AV.lit true))).a Cnd.t).a (((Cnd.p (true = true)).a Cnd.t).a (((Cnd.p (Wk (AV.v (Value.bool false)) (AV.lit false))).a Cnd.t).a (((Cnd.p (Wk (AV.v (Value.bool false)) (AV.lit false))).a Cnd.t).a (((Cnd.p (Wk (AV.v (Value.bool true)) (AV.lit true))).a Cnd.t).a (((Cnd.p (Wk (AV.v (Value.bool true)) (AV.lit true))).a Cnd.t).a (((Cnd.p (true = true)).a ((Cnd.p ([AV.v (Value.string (ByteArray.mk (Array.mk []))), AV.v (Value.string (ByteArray.mk (Array.mk []))), AV.v (Value.slice none 0 0), AV.v (Value.slice none 0 0)] = [AV.v (Value.string (ByteArray.mk (Array.mk []))), AV.v (Value.string (ByteArray.mk (Array.mk []))), AV.v (Value.slice none 0 0), AV.v (Value.slice none 0 0)])).a Cnd.t)).a (((Cnd.p (true = true)).a Cnd.t).a ((Cnd.p (true = true)).a ((Cnd.p ([AV.v (Value.string (ByteArray.mk (Array.mk []))), AV.v (Value.string (ByteArray.mk (Array.mk []))), AV.v (Value.slice none 0 0), AV.v (Value.slice none 0 0)] = [AV.v (Value.string (ByteArray.mk (Array.mk []))), AV.v (Value.string (ByteArray.mk (Array.mk []))), AV.v (Value.slice none 0 0), AV.v (Value.slice none 0 0)])).a Cnd.t)))))))))))) := by kernel_rfl
theorem oNx1_eq (W : World) (P : List UInt8) (off len : Nat) (F : HP) : wRun [(fHead, cHead P off len 3)] (hintL (hxA true true true false)) [] W fNext [.ptr 0 0] [(0, pO 1002 off len), (1002, rB1 P)] kNx F = VT.leaf (AV.tuple [AV.agg [AV.v (Value.string (ByteArray.mk (Array.mk []))), AV.v (Value.string (ByteArray.mk (Array.mk []))), AV.v (Value.slice none 0 0), AV.v (Value.slice none 0 0)], AV.v (Value.bool false), AV.v (Value.int IntKind.i64 (Int.ofNat 413))]) [some (AO.cells [AV.slice 1002 off len 1 (Cp.lo len)] 122), some (AO.cells (AV.rens (sgN (nm01 (0, 1002)) [] 0) (rowV encB P)) 11), some (AO.cells [AV.v (Value.string (ByteArray.mk (Array.mk []))), AV.v (Value.string (ByteArray.mk (Array.mk []))), AV.v (Value.slice none 0 0), AV.v (Value.slice none 0 0)] 64), none, none, none, none] 1101 (((Cnd.p True).a ((Cnd.p (VW [AV.ptr 0 0] [AV.ptr 0 0])).a ((Cnd.p (OW (AO.cells [AV.slice 1002 off len 1 (Cp.lo len)] 122) (AO.cells [AV.slice 1002 off len 1 (Cp.lo len)] 122))).a ((Cnd.p (OW (AO.cells (rowV encB P) 11) (AO.cells (AV.rens (nm01 (0, 1002)) (rowV encB P)) 11))).a Cnd.t)))).a (((Cnd.p (Wk (AV.v (Value.bool true)) (AV.lit true))).a Cnd.t).a (((Cnd.p (Wk (AV.v (Value.bool true)) (AV.lit true))).a Cnd.t).a (((Cnd.p (true = true)).a Cnd.t).a (((Cnd.p (Wk (AV.v (Value.bool (decide (↑len > Int.ofNat 8192)))) (AV.lit true))).a Cnd.t).a (((Cnd.p (true = true)).a ((Cnd.p ([AV.v (Value.string (ByteArray.mk (Array.mk []))), AV.v (Value.string (ByteArray.mk (Array.mk []))), AV.v (Value.slice none 0 0), AV.v (Value.slice none 0 0)] = [AV.v (Value.string (ByteArray.mk (Array.mk []))), AV.v (Value.string (ByteArray.mk (Array.mk []))), AV.v (Value.slice none 0 0), AV.v (Value.slice none 0 0)])).a Cnd.t)).a (((Cnd.p (true = true)).a Cnd.t).a ((Cnd.p (true = true)).a ((Cnd.p ([AV.v (Value.string (ByteArray.mk (Array.mk []))), AV.v (Value.string (ByteArray.mk (Array.mk []))), AV.v (Value.slice none 0 0), AV.v (Value.slice none 0 0)] = [AV.v (Value.string (ByteArray.mk (Array.mk []))), AV.v (Value.string (ByteArray.mk (Array.mk []))), AV.v (Value.slice none 0 0), AV.v (Value.slice none 0 0)])).a Cnd.t))))))))) := by kernel_rfl
theorem oNx2_eq (W : World) (P : List UInt8) (off len : Nat) (F : HP) : wRun [(fHead, cHead P off len 3)] (hintL (hxA true true false false)) [] W fNext [.ptr 0 0] [(0, pO 1002 off len), (1002, rB1 P)] kNx F = VT.leaf (AV.tuple [AV.agg [AV.v (Value.string (ByteArray.mk (Array.mk []))), AV.v (Value.string (ByteArray.mk (Array.mk []))), AV.v (Value.slice none 0 0), AV.v (Value.slice none 0 0)], AV.v (Value.bool false), AV.v (Value.int IntKind.i64 (Int.ofNat 0))]) [some (AO.cells [AV.slice 1002 off len 1 (Cp.lo len)] 122), some (AO.cells (AV.rens (sgN (nm01 (0, 1002)) [] 0) (rowV encB P)) 11), some (AO.cells [AV.v (Value.string (ByteArray.mk (Array.mk []))), AV.v (Value.string (ByteArray.mk (Array.mk []))), AV.v (Value.slice none 0 0), AV.v (Value.slice none 0 0)] 64), none, none, none, none] 1101 (((Cnd.p True).a ((Cnd.p (VW [AV.ptr 0 0] [AV.ptr 0 0])).a ((Cnd.p (OW (AO.cells [AV.slice 1002 off len 1 (Cp.lo len)] 122) (AO.cells [AV.slice 1002 off len 1 (Cp.lo len)] 122))).a ((Cnd.p (OW (AO.cells (rowV encB P) 11) (AO.cells (AV.rens (nm01 (0, 1002)) (rowV encB P)) 11))).a Cnd.t)))).a (((Cnd.p (Wk (AV.v (Value.bool true)) (AV.lit true))).a Cnd.t).a (((Cnd.p (Wk (AV.v (Value.bool true)) (AV.lit true))).a Cnd.t).a (((Cnd.p (true = true)).a Cnd.t).a (((Cnd.p (Wk (AV.v (Value.bool (decide (↑len > Int.ofNat 8192)))) (AV.lit false))).a Cnd.t).a (((Cnd.p (Wk (AV.v (Value.bool false)) (AV.lit false))).a Cnd.t).a (((Cnd.p (Wk (AV.v (Value.bool true)) (AV.lit true))).a Cnd.t).a (((Cnd.p (Wk (AV.v (Value.bool true)) (AV.lit true))).a Cnd.t).a (((Cnd.p (true = true)).a ((Cnd.p ([AV.v (Value.string (ByteArray.mk (Array.mk []))), AV.v (Value.string (ByteArray.mk (Array.mk []))), AV.v (Value.slice none 0 0), AV.v (Value.slice none 0 0)] = [AV.v (Value.string (ByteArray.mk (Array.mk []))), AV.v (Value.string (ByteArray.mk (Array.mk []))), AV.v (Value.slice none 0 0), AV.v (Value.slice none 0 0)])).a Cnd.t)).a (((Cnd.p (true = true)).a Cnd.t).a ((Cnd.p (true = true)).a ((Cnd.p ([AV.v (Value.string (ByteArray.mk (Array.mk []))), AV.v (Value.string (ByteArray.mk (Array.mk []))), AV.v (Value.slice none 0 0), AV.v (Value.slice none 0 0)] = [AV.v (Value.string (ByteArray.mk (Array.mk []))), AV.v (Value.string (ByteArray.mk (Array.mk []))), AV.v (Value.slice none 0 0), AV.v (Value.slice none 0 0)])).a Cnd.t)))))))))))) := by kernel_rfl
theorem oNx3_eq (W : World) (P : List UInt8) (off len n : Nat) (F : HP) : wRun [(fHead, cHead P off len (Int.ofNat n))] (hintL (hxA false false false true)) [] W fNext [.ptr 0 0] [(0, pO 1002 off len), (1002, rB1 P)] kNx F = VT.leaf (AV.tuple [AV.agg [AV.v (Value.string (ByteArray.mk (Array.mk []))), AV.v (Value.string (ByteArray.mk (Array.mk []))), AV.v (Value.slice none 0 0), AV.v (Value.slice none 0 0)], AV.v (Value.bool false), AV.v (Value.int IntKind.i64 (Int.ofNat 413))]) [some (AO.cells [AV.slice 1002 off len 1 (Cp.lo len)] 122), some (AO.cells (AV.rens (sgN (nm01 (0, 1002)) [] 0) (rowV encB P)) 11), some (AO.cells [AV.v (Value.string (ByteArray.mk (Array.mk []))), AV.v (Value.string (ByteArray.mk (Array.mk []))), AV.v (Value.slice none 0 0), AV.v (Value.slice none 0 0)] 64), none, none, none, none] 1101 (((Cnd.p True).a ((Cnd.p (VW [AV.ptr 0 0] [AV.ptr 0 0])).a ((Cnd.p (OW (AO.cells [AV.slice 1002 off len 1 (Cp.lo len)] 122) (AO.cells [AV.slice 1002 off len 1 (Cp.lo len)] 122))).a ((Cnd.p (OW (AO.cells (rowV encB P) 11) (AO.cells (AV.rens (nm01 (0, 1002)) (rowV encB P)) 11))).a Cnd.t)))).a (((Cnd.p (Wk (AV.v (Value.bool (decide (Int.ofNat n < Int.ofNat 4)))) (AV.lit false))).a Cnd.t).a (((Cnd.p (Wk (AV.v (Value.bool (decide (Int.ofNat n > Int.ofNat 8192)))) (AV.lit true))).a Cnd.t).a (((Cnd.p (true = true)).a ((Cnd.p ([AV.v (Value.string (ByteArray.mk (Array.mk []))), AV.v (Value.string (ByteArray.mk (Array.mk []))), AV.v (Value.slice none 0 0), AV.v (Value.slice none 0 0)] = [AV.v (Value.string (ByteArray.mk (Array.mk []))), AV.v (Value.string (ByteArray.mk (Array.mk []))), AV.v (Value.slice none 0 0), AV.v (Value.slice none 0 0)])).a Cnd.t)).a (((Cnd.p (true = true)).a Cnd.t).a ((Cnd.p (true = true)).a ((Cnd.p ([AV.v (Value.string (ByteArray.mk (Array.mk []))), AV.v (Value.string (ByteArray.mk (Array.mk []))), AV.v (Value.slice none 0 0), AV.v (Value.slice none 0 0)] = [AV.v (Value.string (ByteArray.mk (Array.mk []))), AV.v (Value.string (ByteArray.mk (Array.mk []))), AV.v (Value.slice none 0 0), AV.v (Value.slice none 0 0)])).a Cnd.t))))))) := by kernel_rfl
def cA (P : List UInt8) (off len n : Nat) (l0 m t : ByteArray) (b : Bool) : ConsL := [(fHead, cHead P off len (Int.ofNat n)), (fTSuf, cTSuf), (fSplit, cSplt), (fLine, cLine l0 m t b)]
theorem oNx4_eq (W : World) (P : List UInt8) (s1 s2 l0 : ByteArray) (M : List ByteArray) (off len n r : Nat) (F : HP) : wRun (cA P off len n l0 nil0 nil0 false) (hintL (hxA false false false false ++ hxB s1 s2 l0 M r true)) [] W fNext [.ptr 0 0] [(0, pO 1002 off len), (1002, rB1 P)] kNx F = VT.leaf (AV.tuple [AV.agg [AV.v (Value.string (ByteArray.mk (Array.mk []))), AV.v (Value.string (ByteArray.mk (Array.mk []))), AV.v (Value.slice none 0 0), AV.v (Value.slice none 0 0)], AV.v (Value.bool false), AV.v (Value.int IntKind.i64 (Int.ofNat 400))]) [some (AO.cells [AV.slice 1002 off len 1 (Cp.lo len)] 122), some (AO.cells (AV.rens (sgN (nm01 (0, 1002)) [] 0) (rowV encB P)) 11), some (AO.cells [AV.v (Value.string (ByteArray.mk (Array.mk []))), AV.v (Value.string (ByteArray.mk (Array.mk []))), AV.v (Value.slice none 0 0), AV.v (Value.slice none 0 0)] 64), some (AO.cells (rowV encS M) 18), none, none, none] 1102 (((Cnd.p True).a ((Cnd.p (VW [AV.ptr 0 0] [AV.ptr 0 0])).a ((Cnd.p (OW (AO.cells [AV.slice 1002 off len 1 (Cp.lo len)] 122) (AO.cells [AV.slice 1002 off len 1 (Cp.lo len)] 122))).a ((Cnd.p (OW (AO.cells (rowV encB P) 11) (AO.cells (AV.rens (nm01 (0, 1002)) (rowV encB P)) 11))).a Cnd.t)))).a (((Cnd.p (Wk (AV.v (Value.bool (decide (Int.ofNat n < Int.ofNat 4)))) (AV.lit false))).a Cnd.t).a (((Cnd.p (Wk (AV.v (Value.bool (decide (Int.ofNat n > Int.ofNat 8192)))) (AV.lit false))).a Cnd.t).a (((Cnd.p (Wk (AV.v (Value.bool (decide (Int.ofNat n < Int.ofNat 4)))) (AV.lit false))).a Cnd.t).a (((Cnd.p (true = true)).a Cnd.t).a (((Cnd.p (true = true)).a ((Cnd.p (n.ble len = true)).a ((Cnd.p (len.ble len = true)).a Cnd.t))).a (((Cnd.p (off + n ≤ (AV.rens (sgN (nm01 (0, 1002)) [] 0) (rowV encB P)).length ∧ List.take n (List.drop off (AV.rens (sgN (nm01 (0, 1002)) [] 0) (rowV encB P))) = vmap (List.map (fun b => Value.int IntKind.u8 ↑b.toNat) s1.data.toList))).a Cnd.t).a (((Cnd.p (s1.size ≤ 9223372036854775807)).a ((Cnd.p (Wk (AV.v (Value.string (sufB s1 (ByteArray.mk (Array.mk [13, 10, 13, 10]))))) (AV.v (Value.string s2)))).a Cnd.t)).a (((Cnd.p (1 ≤ 2 ∧ s2.size < 4294967281)).a ((Cnd.p (OW (AO.cells (vmap (List.map Value.string (splB s2 (ByteArray.mk (Array.mk [13, 10]))))) 18) (AO.cells (rowV encS M) 18))).a ((Cnd.p (Wk (AV.slice 1101 0 (List.map Value.string (splB s2 (ByteArray.mk (Array.mk [13, 10])))).length 1 (Cp.lo (List.map Value.string (splB s2 (ByteArray.mk (Array.mk [13, 10])))).length)) (AV.slice 1101 0 (r + 1) 1 (Cp.lo (r + 1))))).a Cnd.t))).a (((Cnd.p (true = true)).a Cnd.t).a (((Cnd.p (Nat.blt 0 (rowV encS M).length = true)).a ((Cnd.p ((rowV encS M).getD 0 (AV.undef) = AV.v (Value.string ((rowV encS M).getD 0 (AV.undef)).strOf))).a ((Cnd.p (Wk (AV.v (Value.string ((rowV encS M).getD 0 (AV.undef)).strOf)) (AV.v (Value.string l0)))).a Cnd.t))).a (((Cnd.p True).a ((Cnd.p (VW [AV.v (Value.string l0), AV.ptr 1100 0] [AV.v (Value.string l0), AV.ptr 1100 0])).a ((Cnd.p (OW (AO.cells [AV.v (Value.string (ByteArray.mk (Array.mk []))), AV.v (Value.string (ByteArray.mk (Array.mk []))), AV.v (Value.slice none 0 0), AV.v (Value.slice none 0 0)] 64) (AO.cells [AV.v (Value.string nil0), AV.v (Value.string nil0), AV.v (Value.slice none 0 0), AV.v (Value.slice none 0 0)] 64))).a Cnd.t))).a (((Cnd.p (Wk (AV.v (Value.bool true)) (AV.lit true))).a Cnd.t).a (((Cnd.p (true = true)).a Cnd.t).a ((Cnd.p (true = true)).a ((Cnd.p ([AV.v (Value.string (ByteArray.mk (Array.mk []))), AV.v (Value.string (ByteArray.mk (Array.mk []))), AV.v (Value.slice none 0 0), AV.v (Value.slice none 0 0)] = [AV.v (Value.string (ByteArray.mk (Array.mk []))), AV.v (Value.string (ByteArray.mk (Array.mk []))), AV.v (Value.slice none 0 0), AV.v (Value.slice none 0 0)])).a Cnd.t)))))))))))))))) := by kernel_rfl
theorem oNx4b_eq (W : World) (P : List UInt8) (s1 s2 l0 : ByteArray) (M : List ByteArray) (off len n r : Nat) (F : HP) : wRun (cA P off len n l0 nil0 nil0 false) (hintL (hxA true false false false ++ hxB s1 s2 l0 M r true)) [] W fNext [.ptr 0 0] [(0, pO 1002 off len), (1002, rB1 P)] kNx F = VT.leaf (AV.tuple [AV.agg [AV.v (Value.string (ByteArray.mk (Array.mk []))), AV.v (Value.string (ByteArray.mk (Array.mk []))), AV.v (Value.slice none 0 0), AV.v (Value.slice none 0 0)], AV.v (Value.bool false), AV.v (Value.int IntKind.i64 (Int.ofNat 400))]) [some (AO.cells [AV.slice 1002 off len 1 (Cp.lo len)] 122), some (AO.cells (AV.rens (sgN (nm01 (0, 1002)) [] 0) (rowV encB P)) 11), some (AO.cells [AV.v (Value.string (ByteArray.mk (Array.mk []))), AV.v (Value.string (ByteArray.mk (Array.mk []))), AV.v (Value.slice none 0 0), AV.v (Value.slice none 0 0)] 64), some (AO.cells (rowV encS M) 18), none, none, none] 1102 (((Cnd.p True).a ((Cnd.p (VW [AV.ptr 0 0] [AV.ptr 0 0])).a ((Cnd.p (OW (AO.cells [AV.slice 1002 off len 1 (Cp.lo len)] 122) (AO.cells [AV.slice 1002 off len 1 (Cp.lo len)] 122))).a ((Cnd.p (OW (AO.cells (rowV encB P) 11) (AO.cells (AV.rens (nm01 (0, 1002)) (rowV encB P)) 11))).a Cnd.t)))).a (((Cnd.p (Wk (AV.v (Value.bool (decide (Int.ofNat n < Int.ofNat 4)))) (AV.lit true))).a Cnd.t).a (((Cnd.p (Wk (AV.v (Value.bool (Int.ofNat n != Int.ofNat 2))) (AV.lit false))).a Cnd.t).a (((Cnd.p (Wk (AV.v (Value.bool (decide (Int.ofNat n > Int.ofNat 8192)))) (AV.lit false))).a Cnd.t).a (((Cnd.p (Wk (AV.v (Value.bool (decide (Int.ofNat n < Int.ofNat 4)))) (AV.lit true))).a Cnd.t).a (((Cnd.p (Wk (AV.v (Value.bool (Int.ofNat n != Int.ofNat 2))) (AV.lit false))).a Cnd.t).a (((Cnd.p (true = true)).a Cnd.t).a (((Cnd.p (true = true)).a ((Cnd.p (n.ble len = true)).a ((Cnd.p (len.ble len = true)).a Cnd.t))).a (((Cnd.p (off + n ≤ (AV.rens (sgN (nm01 (0, 1002)) [] 0) (rowV encB P)).length ∧ List.take n (List.drop off (AV.rens (sgN (nm01 (0, 1002)) [] 0) (rowV encB P))) = vmap (List.map (fun b => Value.int IntKind.u8 ↑b.toNat) s1.data.toList))).a Cnd.t).a (((Cnd.p (s1.size ≤ 9223372036854775807)).a ((Cnd.p (Wk (AV.v (Value.string (sufB s1 (ByteArray.mk (Array.mk [13, 10, 13, 10]))))) (AV.v (Value.string s2)))).a Cnd.t)).a (((Cnd.p (1 ≤ 2 ∧ s2.size < 4294967281)).a ((Cnd.p (OW (AO.cells (vmap (List.map Value.string (splB s2 (ByteArray.mk (Array.mk [13, 10]))))) 18) (AO.cells (rowV encS M) 18))).a ((Cnd.p (Wk (AV.slice 1101 0 (List.map Value.string (splB s2 (ByteArray.mk (Array.mk [13, 10])))).length 1 (Cp.lo (List.map Value.string (splB s2 (ByteArray.mk (Array.mk [13, 10])))).length)) (AV.slice 1101 0 (r + 1) 1 (Cp.lo (r + 1))))).a Cnd.t))).a (((Cnd.p (true = true)).a Cnd.t).a (((Cnd.p (Nat.blt 0 (rowV encS M).length = true)).a ((Cnd.p ((rowV encS M).getD 0 (AV.undef) = AV.v (Value.string ((rowV encS M).getD 0 (AV.undef)).strOf))).a ((Cnd.p (Wk (AV.v (Value.string ((rowV encS M).getD 0 (AV.undef)).strOf)) (AV.v (Value.string l0)))).a Cnd.t))).a (((Cnd.p True).a ((Cnd.p (VW [AV.v (Value.string l0), AV.ptr 1100 0] [AV.v (Value.string l0), AV.ptr 1100 0])).a ((Cnd.p (OW (AO.cells [AV.v (Value.string (ByteArray.mk (Array.mk []))), AV.v (Value.string (ByteArray.mk (Array.mk []))), AV.v (Value.slice none 0 0), AV.v (Value.slice none 0 0)] 64) (AO.cells [AV.v (Value.string nil0), AV.v (Value.string nil0), AV.v (Value.slice none 0 0), AV.v (Value.slice none 0 0)] 64))).a Cnd.t))).a (((Cnd.p (Wk (AV.v (Value.bool true)) (AV.lit true))).a Cnd.t).a (((Cnd.p (true = true)).a Cnd.t).a ((Cnd.p (true = true)).a ((Cnd.p ([AV.v (Value.string (ByteArray.mk (Array.mk []))), AV.v (Value.string (ByteArray.mk (Array.mk []))), AV.v (Value.slice none 0 0), AV.v (Value.slice none 0 0)] = [AV.v (Value.string (ByteArray.mk (Array.mk []))), AV.v (Value.string (ByteArray.mk (Array.mk []))), AV.v (Value.slice none 0 0), AV.v (Value.slice none 0 0)])).a Cnd.t)))))))))))))))))) := by kernel_rfl
theorem oNx5_eq (W : World) (P : List UInt8) (s1 s2 l0 m t : ByteArray) (M : List ByteArray) (off len n r : Nat) (F : HP) : wRun (cA P off len n l0 m t true) (hintL (hxA false false false false ++ hxB s1 s2 l0 M r false)) [(fNext, 11, loopN fNext 11, lNlX P off len M m t n r)] W fNext [.ptr 0 0] [(0, pO 1002 off len), (1002, rB1 P)] kNx F = VT.leaf (AV.tuple [AV.agg [AV.v (Value.string nil0), AV.v (Value.string nil0), AV.v (Value.slice none 0 0), AV.v (Value.slice none 0 0)], AV.v (Value.bool false), AV.v (Value.int IntKind.i64 (Int.ofNat 400))]) [some (AO.cells [AV.slice 1002 off len 1 (Cp.lo len)] 122), some (AO.cells (AV.rens (sgN (nmNl ((1100, 1101), 0, 1002)) [] 0) (rowV encB P)) 11), some (AO.cells [AV.v (Value.string nil0), AV.v (Value.string nil0), AV.v (Value.slice none 0 0), AV.v (Value.slice none 0 0)] 64), none, none, none, none] 1102 (((Cnd.p True).a ((Cnd.p (VW [AV.ptr 0 0] [AV.ptr 0 0])).a ((Cnd.p (OW (AO.cells [AV.slice 1002 off len 1 (Cp.lo len)] 122) (AO.cells [AV.slice 1002 off len 1 (Cp.lo len)] 122))).a ((Cnd.p (OW (AO.cells (rowV encB P) 11) (AO.cells (AV.rens (nm01 (0, 1002)) (rowV encB P)) 11))).a Cnd.t)))).a (((Cnd.p (Wk (AV.v (Value.bool (decide (Int.ofNat n < Int.ofNat 4)))) (AV.lit false))).a Cnd.t).a (((Cnd.p (Wk (AV.v (Value.bool (decide (Int.ofNat n > Int.ofNat 8192)))) (AV.lit false))).a Cnd.t).a (((Cnd.p (Wk (AV.v (Value.bool (decide (Int.ofNat n < Int.ofNat 4)))) (AV.lit false))).a Cnd.t).a (((Cnd.p (true = true)).a Cnd.t).a (((Cnd.p (true = true)).a ((Cnd.p (n.ble len = true)).a ((Cnd.p (len.ble len = true)).a Cnd.t))).a (((Cnd.p (off + n ≤ (AV.rens (sgN (nm01 (0, 1002)) [] 0) (rowV encB P)).length ∧ List.take n (List.drop off (AV.rens (sgN (nm01 (0, 1002)) [] 0) (rowV encB P))) = vmap (List.map (fun b => Value.int IntKind.u8 ↑b.toNat) s1.data.toList))).a Cnd.t).a (((Cnd.p (s1.size ≤ 9223372036854775807)).a ((Cnd.p (Wk (AV.v (Value.string (sufB s1 (ByteArray.mk (Array.mk [13, 10, 13, 10]))))) (AV.v (Value.string s2)))).a Cnd.t)).a (((Cnd.p (1 ≤ 2 ∧ s2.size < 4294967281)).a ((Cnd.p (OW (AO.cells (vmap (List.map Value.string (splB s2 (ByteArray.mk (Array.mk [13, 10]))))) 18) (AO.cells (rowV encS M) 18))).a ((Cnd.p (Wk (AV.slice 1101 0 (List.map Value.string (splB s2 (ByteArray.mk (Array.mk [13, 10])))).length 1 (Cp.lo (List.map Value.string (splB s2 (ByteArray.mk (Array.mk [13, 10])))).length)) (AV.slice 1101 0 (r + 1) 1 (Cp.lo (r + 1))))).a Cnd.t))).a (((Cnd.p (true = true)).a Cnd.t).a (((Cnd.p (Nat.blt 0 (rowV encS M).length = true)).a ((Cnd.p ((rowV encS M).getD 0 (AV.undef) = AV.v (Value.string ((rowV encS M).getD 0 (AV.undef)).strOf))).a ((Cnd.p (Wk (AV.v (Value.string ((rowV encS M).getD 0 (AV.undef)).strOf)) (AV.v (Value.string l0)))).a Cnd.t))).a (((Cnd.p True).a ((Cnd.p (VW [AV.v (Value.string l0), AV.ptr 1100 0] [AV.v (Value.string l0), AV.ptr 1100 0])).a ((Cnd.p (OW (AO.cells [AV.v (Value.string (ByteArray.mk (Array.mk []))), AV.v (Value.string (ByteArray.mk (Array.mk []))), AV.v (Value.slice none 0 0), AV.v (Value.slice none 0 0)] 64) (AO.cells [AV.v (Value.string nil0), AV.v (Value.string nil0), AV.v (Value.slice none 0 0), AV.v (Value.slice none 0 0)] 64))).a Cnd.t))).a (((Cnd.p (Wk (AV.v (Value.bool false)) (AV.lit false))).a Cnd.t).a (((Cnd.p (true = true)).a ((Cnd.p ((r + 1).ble (r + 1) = true)).a ((Cnd.p ((r + 1).ble (r + 1) = true)).a ((Cnd.p (Wk (AV.slice 1101 1 r 1 (Cp.lo r)) (AV.slice 1101 1 r 1 (Cp.lo r)))).a Cnd.t)))).a (((Cnd.p (Wk (AV.v (Value.int IntKind.i64 ↑r)) (AV.v (Value.int IntKind.i64 (Int.ofNat r))))).a Cnd.t).a ((Cnd.p ((fNext, 11, loopN fNext 11, lNlX P off len M m t n r).snd.snd.fst = (fNext, 11, loopN fNext 11, lNlX P off len M m t n r).snd.snd.fst)).a ((Cnd.p True).a ((Cnd.p (VW [AV.ptr 0 0, AV.undef, AV.ptr 1100 0, AV.v (Value.bool false), AV.v (Value.int IntKind.i64 (Int.ofNat 0)), AV.v (Value.int IntKind.i64 (Int.ofNat n)), AV.slice 1101 0 (r + 1) 1 (Cp.lo (r + 1)), AV.undef, AV.undef, AV.undef, AV.undef, AV.ptr 0 0, AV.v (Value.int IntKind.i64 (Int.ofNat n)), AV.lit false, AV.v (Value.int IntKind.i64 (Int.ofNat n)), AV.lit false, AV.lit false, AV.undef, AV.undef, AV.lit false, AV.lit false, AV.undef, AV.undef, AV.undef, AV.undef, AV.undef, AV.undef, AV.lit false, AV.v (Value.int IntKind.i64 (Int.ofNat n)), AV.lit false, AV.undef, AV.lit false, AV.v (Value.int IntKind.i64 (Int.ofNat n)), AV.lit false, AV.lit false, AV.undef, AV.undef, AV.lit false, AV.undef, AV.ptr 0 0, AV.ptr 0 0, AV.ptr 0 0, AV.slice 1002 off len 1 (Cp.lo len), AV.v (Value.int IntKind.i64 (Int.ofNat n)), AV.slice 1002 off n 1 (Cp.lo len), AV.v (Value.string s1), AV.v (Value.string s2), AV.slice 1101 0 (r + 1) 1 (Cp.lo (r + 1)), AV.slice 1101 0 (r + 1) 1 (Cp.lo (r + 1)), AV.ptr 1101 0, AV.v (Value.string l0), AV.v (Value.bool true), AV.lit false, AV.undef, AV.slice 1101 0 (r + 1) 1 (Cp.lo (r + 1)), AV.slice 1101 1 r 1 (Cp.lo r), AV.v (Value.int IntKind.i64 (Int.ofNat r)), AV.v (Value.int IntKind.i64 (Int.ofNat 0)), AV.undef, AV.undef, AV.undef, AV.undef, AV.undef, AV.undef, AV.undef, AV.undef, AV.undef, AV.undef, AV.undef, AV.undef, AV.undef, AV.undef, AV.undef, AV.undef, AV.undef, AV.undef, AV.undef, AV.undef, AV.undef, AV.undef, AV.undef, AV.undef, AV.undef, AV.undef, AV.undef, AV.undef, AV.undef, AV.undef, AV.undef, AV.undef, AV.undef, AV.undef, AV.undef, AV.undef, AV.undef, AV.undef, AV.undef, AV.undef, AV.undef, AV.undef, AV.undef, AV.undef, AV.undef, AV.undef, AV.undef, AV.undef, AV.undef, AV.undef, AV.undef, AV.undef, AV.undef, AV.undef, AV.undef] [AV.ptr 0 0, AV.any, AV.ptr 1100 0, AV.any, AV.any, AV.v (Value.int IntKind.i64 (Int.ofNat n)), AV.any, AV.any, AV.any, AV.any, AV.any, AV.any, AV.any, AV.any, AV.any, AV.any, AV.any, AV.any, AV.any, AV.any, AV.any, AV.any, AV.any, AV.any, AV.any, AV.any, AV.any, AV.any, AV.any, AV.any, AV.any, AV.any, AV.any, AV.any, AV.any, AV.any, AV.any, AV.any, AV.any, AV.any, AV.any, AV.any, AV.any, AV.any, AV.any, AV.any, AV.any, AV.any, AV.any, AV.any, AV.any, AV.any, AV.any, AV.any, AV.any, AV.slice 1101 1 r 1 (Cp.lo r), AV.v (Value.int IntKind.i64 (Int.ofNat r)), AV.v (Value.int IntKind.i64 (Int.ofNat 0)), AV.any, AV.any, AV.any, AV.any, AV.any, AV.any, AV.any, AV.any, AV.any, AV.any, AV.any, AV.any, AV.any, AV.any, AV.any, AV.any, AV.any, AV.any, AV.any, AV.any, AV.any, AV.any, AV.any, AV.any, AV.any, AV.any, AV.any, AV.any, AV.any, AV.any, AV.any, AV.any, AV.any, AV.any, AV.any, AV.any, AV.any, AV.any, AV.any, AV.any, AV.any, AV.any, AV.any, AV.any, AV.any, AV.any, AV.any, AV.any, AV.any, AV.any, AV.any, AV.any, AV.any, AV.any, AV.any])).a ((Cnd.p (OW (AO.cells [AV.v (Value.string m), AV.v (Value.string t), AV.v (Value.slice none 0 0), AV.v (Value.slice none 0 0)] 64) (AO.cells [AV.v (Value.string m), AV.v (Value.string t), AV.v (Value.slice none 0 0), AV.v (Value.slice none 0 0)] 64))).a ((Cnd.p (OW (AO.cells (rowV encS M) 18) (AO.cells (AV.rens (nmNl ((1100, 1101), 0, 1002)) (rowV encS M)) 18))).a ((Cnd.p (OW (AO.cells [AV.slice 1002 off len 1 (Cp.lo len)] 122) (AO.cells [AV.slice 1002 off len 1 (Cp.lo len)] 122))).a ((Cnd.p (OW (AO.cells (AV.rens (sgN (nm01 (0, 1002)) [] 0) (rowV encB P)) 11) (AO.cells (AV.rens (nmNl ((1100, 1101), 0, 1002)) (rowV encB P)) 11))).a ((Cnd.p (true = true)).a ((Cnd.p ([AV.v (Value.string nil0), AV.v (Value.string nil0), AV.v (Value.slice none 0 0), AV.v (Value.slice none 0 0)] = [AV.v (Value.string nil0), AV.v (Value.string nil0), AV.v (Value.slice none 0 0), AV.v (Value.slice none 0 0)])).a Cnd.t)))))))))))))))))))))))) := by kernel_rfl
theorem oNx6_eq (W : World) (P : List UInt8) (s1 s2 l0 m t : ByteArray) (M : List ByteArray) (L : Hds) (off len n r sz : Nat) (F : HP) : wRun (cA P off len n l0 m t true ++ [(fLen, cLen L m t (Int.ofNat 0) false)]) (hintL (hxA false false false false ++ hxB s1 s2 l0 M r false ++ hxC n sz true false false)) [(fNext, 11, loopN fNext 11, lNl P off len M m t n r L)] W fNext [.ptr 0 0] [(0, pO 1002 off len), (1002, rB1 P)] kNx F = VT.leaf (AV.tuple [AV.agg [AV.v (Value.string (ByteArray.mk (Array.mk []))), AV.v (Value.string (ByteArray.mk (Array.mk []))), AV.v (Value.slice none 0 0), AV.v (Value.slice none 0 0)], AV.v (Value.bool false), AV.v (Value.int IntKind.i64 (Int.ofNat 400))]) [some (AO.cells [AV.slice 1002 off len 1 (Cp.lo len)] 122), some (AO.cells (AV.rens (sgN (nmNl ((1100, 1101), 0, 1002)) [1000] 1102) (rowV encB P)) 11), some (AO.cells [AV.v (Value.string (ByteArray.mk (Array.mk []))), AV.v (Value.string (ByteArray.mk (Array.mk []))), AV.v (Value.slice none 0 0), AV.v (Value.slice none 0 0)] 64), none, some (AO.cells (AV.rens (sgN (nm0 1102) [] 0) (rowV encP L)) 78), none, none] 1103 (((Cnd.p True).a ((Cnd.p (VW [AV.ptr 0 0] [AV.ptr 0 0])).a ((Cnd.p (OW (AO.cells [AV.slice 1002 off len 1 (Cp.lo len)] 122) (AO.cells [AV.slice 1002 off len 1 (Cp.lo len)] 122))).a ((Cnd.p (OW (AO.cells (rowV encB P) 11) (AO.cells (AV.rens (nm01 (0, 1002)) (rowV encB P)) 11))).a Cnd.t)))).a (((Cnd.p (Wk (AV.v (Value.bool (decide (Int.ofNat n < Int.ofNat 4)))) (AV.lit false))).a Cnd.t).a (((Cnd.p (Wk (AV.v (Value.bool (decide (Int.ofNat n > Int.ofNat 8192)))) (AV.lit false))).a Cnd.t).a (((Cnd.p (Wk (AV.v (Value.bool (decide (Int.ofNat n < Int.ofNat 4)))) (AV.lit false))).a Cnd.t).a (((Cnd.p (true = true)).a Cnd.t).a (((Cnd.p (true = true)).a ((Cnd.p (n.ble len = true)).a ((Cnd.p (len.ble len = true)).a Cnd.t))).a (((Cnd.p (off + n ≤ (AV.rens (sgN (nm01 (0, 1002)) [] 0) (rowV encB P)).length ∧ List.take n (List.drop off (AV.rens (sgN (nm01 (0, 1002)) [] 0) (rowV encB P))) = vmap (List.map (fun b => Value.int IntKind.u8 ↑b.toNat) s1.data.toList))).a Cnd.t).a (((Cnd.p (s1.size ≤ 9223372036854775807)).a ((Cnd.p (Wk (AV.v (Value.string (sufB s1 (ByteArray.mk (Array.mk [13, 10, 13, 10]))))) (AV.v (Value.string s2)))).a Cnd.t)).a (((Cnd.p (1 ≤ 2 ∧ s2.size < 4294967281)).a ((Cnd.p (OW (AO.cells (vmap (List.map Value.string (splB s2 (ByteArray.mk (Array.mk [13, 10]))))) 18) (AO.cells (rowV encS M) 18))).a ((Cnd.p (Wk (AV.slice 1101 0 (List.map Value.string (splB s2 (ByteArray.mk (Array.mk [13, 10])))).length 1 (Cp.lo (List.map Value.string (splB s2 (ByteArray.mk (Array.mk [13, 10])))).length)) (AV.slice 1101 0 (r + 1) 1 (Cp.lo (r + 1))))).a Cnd.t))).a (((Cnd.p (true = true)).a Cnd.t).a (((Cnd.p (Nat.blt 0 (rowV encS M).length = true)).a ((Cnd.p ((rowV encS M).getD 0 (AV.undef) = AV.v (Value.string ((rowV encS M).getD 0 (AV.undef)).strOf))).a ((Cnd.p (Wk (AV.v (Value.string ((rowV encS M).getD 0 (AV.undef)).strOf)) (AV.v (Value.string l0)))).a Cnd.t))).a (((Cnd.p True).a ((Cnd.p (VW [AV.v (Value.string l0), AV.ptr 1100 0] [AV.v (Value.string l0), AV.ptr 1100 0])).a ((Cnd.p (OW (AO.cells [AV.v (Value.string (ByteArray.mk (Array.mk []))), AV.v (Value.string (ByteArray.mk (Array.mk []))), AV.v (Value.slice none 0 0), AV.v (Value.slice none 0 0)] 64) (AO.cells [AV.v (Value.string nil0), AV.v (Value.string nil0), AV.v (Value.slice none 0 0), AV.v (Value.slice none 0 0)] 64))).a Cnd.t))).a (((Cnd.p (Wk (AV.v (Value.bool false)) (AV.lit false))).a Cnd.t).a (((Cnd.p (true = true)).a ((Cnd.p ((r + 1).ble (r + 1) = true)).a ((Cnd.p ((r + 1).ble (r + 1) = true)).a ((Cnd.p (Wk (AV.slice 1101 1 r 1 (Cp.lo r)) (AV.slice 1101 1 r 1 (Cp.lo r)))).a Cnd.t)))).a (((Cnd.p (Wk (AV.v (Value.int IntKind.i64 ↑r)) (AV.v (Value.int IntKind.i64 (Int.ofNat r))))).a Cnd.t).a ((Cnd.p ((fNext, 11, loopN fNext 11, lNl P off len M m t n r L).snd.snd.fst = (fNext, 11, loopN fNext 11, lNl P off len M m t n r L).snd.snd.fst)).a ((Cnd.p True).a ((Cnd.p (VW [AV.ptr 0 0, AV.undef, AV.ptr 1100 0, AV.v (Value.bool false), AV.v (Value.int IntKind.i64 (Int.ofNat 0)), AV.v (Value.int IntKind.i64 (Int.ofNat n)), AV.slice 1101 0 (r + 1) 1 (Cp.lo (r + 1)), AV.undef, AV.undef, AV.undef, AV.undef, AV.ptr 0 0, AV.v (Value.int IntKind.i64 (Int.ofNat n)), AV.lit false, AV.v (Value.int IntKind.i64 (Int.ofNat n)), AV.lit false, AV.lit false, AV.undef, AV.undef, AV.lit false, AV.lit false, AV.undef, AV.undef, AV.undef, AV.undef, AV.undef, AV.undef, AV.lit false, AV.v (Value.int IntKind.i64 (Int.ofNat n)), AV.lit false, AV.undef, AV.lit false, AV.v (Value.int IntKind.i64 (Int.ofNat n)), AV.lit false, AV.lit false, AV.undef, AV.undef, AV.lit false, AV.undef, AV.ptr 0 0, AV.ptr 0 0, AV.ptr 0 0, AV.slice 1002 off len 1 (Cp.lo len), AV.v (Value.int IntKind.i64 (Int.ofNat n)), AV.slice 1002 off n 1 (Cp.lo len), AV.v (Value.string s1), AV.v (Value.string s2), AV.slice 1101 0 (r + 1) 1 (Cp.lo (r + 1)), AV.slice 1101 0 (r + 1) 1 (Cp.lo (r + 1)), AV.ptr 1101 0, AV.v (Value.string l0), AV.v (Value.bool true), AV.lit false, AV.undef, AV.slice 1101 0 (r + 1) 1 (Cp.lo (r + 1)), AV.slice 1101 1 r 1 (Cp.lo r), AV.v (Value.int IntKind.i64 (Int.ofNat r)), AV.v (Value.int IntKind.i64 (Int.ofNat 0)), AV.undef, AV.undef, AV.undef, AV.undef, AV.undef, AV.undef, AV.undef, AV.undef, AV.undef, AV.undef, AV.undef, AV.undef, AV.undef, AV.undef, AV.undef, AV.undef, AV.undef, AV.undef, AV.undef, AV.undef, AV.undef, AV.undef, AV.undef, AV.undef, AV.undef, AV.undef, AV.undef, AV.undef, AV.undef, AV.undef, AV.undef, AV.undef, AV.undef, AV.undef, AV.undef, AV.undef, AV.undef, AV.undef, AV.undef, AV.undef, AV.undef, AV.undef, AV.undef, AV.undef, AV.undef, AV.undef, AV.undef, AV.undef, AV.undef, AV.undef, AV.undef, AV.undef, AV.undef, AV.undef, AV.undef] [AV.ptr 0 0, AV.any, AV.ptr 1100 0, AV.any, AV.any, AV.v (Value.int IntKind.i64 (Int.ofNat n)), AV.any, AV.any, AV.any, AV.any, AV.any, AV.any, AV.any, AV.any, AV.any, AV.any, AV.any, AV.any, AV.any, AV.any, AV.any, AV.any, AV.any, AV.any, AV.any, AV.any, AV.any, AV.any, AV.any, AV.any, AV.any, AV.any, AV.any, AV.any, AV.any, AV.any, AV.any, AV.any, AV.any, AV.any, AV.any, AV.any, AV.any, AV.any, AV.any, AV.any, AV.any, AV.any, AV.any, AV.any, AV.any, AV.any, AV.any, AV.any, AV.any, AV.slice 1101 1 r 1 (Cp.lo r), AV.v (Value.int IntKind.i64 (Int.ofNat r)), AV.v (Value.int IntKind.i64 (Int.ofNat 0)), AV.any, AV.any, AV.any, AV.any, AV.any, AV.any, AV.any, AV.any, AV.any, AV.any, AV.any, AV.any, AV.any, AV.any, AV.any, AV.any, AV.any, AV.any, AV.any, AV.any, AV.any, AV.any, AV.any, AV.any, AV.any, AV.any, AV.any, AV.any, AV.any, AV.any, AV.any, AV.any, AV.any, AV.any, AV.any, AV.any, AV.any, AV.any, AV.any, AV.any, AV.any, AV.any, AV.any, AV.any, AV.any, AV.any, AV.any, AV.any, AV.any, AV.any, AV.any, AV.any, AV.any, AV.any, AV.any])).a ((Cnd.p (OW (AO.cells [AV.v (Value.string m), AV.v (Value.string t), AV.v (Value.slice none 0 0), AV.v (Value.slice none 0 0)] 64) (AO.cells [AV.v (Value.string m), AV.v (Value.string t), AV.v (Value.slice none 0 0), AV.v (Value.slice none 0 0)] 64))).a ((Cnd.p (OW (AO.cells (rowV encS M) 18) (AO.cells (AV.rens (nmNl ((1100, 1101), 0, 1002)) (rowV encS M)) 18))).a ((Cnd.p (OW (AO.cells [AV.slice 1002 off len 1 (Cp.lo len)] 122) (AO.cells [AV.slice 1002 off len 1 (Cp.lo len)] 122))).a ((Cnd.p (OW (AO.cells (AV.rens (sgN (nm01 (0, 1002)) [] 0) (rowV encB P)) 11) (AO.cells (AV.rens (nmNl ((1100, 1101), 0, 1002)) (rowV encB P)) 11))).a (((Cnd.p (true = true)).a ((Cnd.p ([AV.v (Value.string m), AV.v (Value.string t), AV.slice 1102 0 (List.length L) 2 (Cp.lo (List.length L)), AV.v (Value.slice none 0 0)] = [AV.v (Value.string m), AV.v (Value.string t), AV.slice 1102 0 (List.length L) 2 (Cp.lo (List.length L)), AV.v (Value.slice none 0 0)])).a Cnd.t)).a (((Cnd.p True).a ((Cnd.p (VW [AV.agg [AV.v (Value.string m), AV.v (Value.string t), AV.slice 1102 0 (List.length L) 2 (Cp.lo (List.length L)), AV.v (Value.slice none 0 0)]] [AV.agg [AV.v (Value.string m), AV.v (Value.string t), AV.slice 1102 0 (List.length L) 2 (Cp.lo (List.length L)), AV.v (Value.slice none 0 0)]])).a ((Cnd.p (OW (AO.cells (AV.rens (sgN (nmNl ((1100, 1101), 0, 1002)) [1000] 1102) (rowV encP L)) 78) (AO.cells (AV.rens (nm0 1102) (rowV encP L)) 78))).a Cnd.t))).a (((Cnd.p (Wk (AV.v (Value.bool true)) (AV.lit true))).a Cnd.t).a (((Cnd.p (true = true)).a Cnd.t).a ((Cnd.p (true = true)).a ((Cnd.p ([AV.v (Value.string (ByteArray.mk (Array.mk []))), AV.v (Value.string (ByteArray.mk (Array.mk []))), AV.v (Value.slice none 0 0), AV.v (Value.slice none 0 0)] = [AV.v (Value.string (ByteArray.mk (Array.mk []))), AV.v (Value.string (ByteArray.mk (Array.mk []))), AV.v (Value.slice none 0 0), AV.v (Value.slice none 0 0)])).a Cnd.t)))))))))))))))))))))))))))) := by kernel_rfl
theorem oNx7_eq (W : World) (P : List UInt8) (s1 s2 l0 m t : ByteArray) (M : List ByteArray) (L : Hds) (off len n r sz : Nat) (F : HP) : wRun (cA P off len n l0 m t true ++ [(fLen, cLen L m t (Int.ofNat sz) true)]) (hintL (hxA false false false false ++ hxB s1 s2 l0 M r false ++ hxC n sz false true false)) [(fNext, 11, loopN fNext 11, lNl P off len M m t n r L)] W fNext [.ptr 0 0] [(0, pO 1002 off len), (1002, rB1 P)] kNx F = VT.leaf (AV.tuple [AV.agg [AV.v (Value.string (ByteArray.mk (Array.mk []))), AV.v (Value.string (ByteArray.mk (Array.mk []))), AV.v (Value.slice none 0 0), AV.v (Value.slice none 0 0)], AV.v (Value.bool false), AV.v (Value.int IntKind.i64 (Int.ofNat 413))]) [some (AO.cells [AV.slice 1002 off len 1 (Cp.lo len)] 122), some (AO.cells (AV.rens (sgN (nmNl ((1100, 1101), 0, 1002)) [1000] 1102) (rowV encB P)) 11), some (AO.cells [AV.v (Value.string (ByteArray.mk (Array.mk []))), AV.v (Value.string (ByteArray.mk (Array.mk []))), AV.v (Value.slice none 0 0), AV.v (Value.slice none 0 0)] 64), none, some (AO.cells (AV.rens (sgN (nm0 1102) [] 0) (rowV encP L)) 78), none, none] 1103 (((Cnd.p True).a ((Cnd.p (VW [AV.ptr 0 0] [AV.ptr 0 0])).a ((Cnd.p (OW (AO.cells [AV.slice 1002 off len 1 (Cp.lo len)] 122) (AO.cells [AV.slice 1002 off len 1 (Cp.lo len)] 122))).a ((Cnd.p (OW (AO.cells (rowV encB P) 11) (AO.cells (AV.rens (nm01 (0, 1002)) (rowV encB P)) 11))).a Cnd.t)))).a (((Cnd.p (Wk (AV.v (Value.bool (decide (Int.ofNat n < Int.ofNat 4)))) (AV.lit false))).a Cnd.t).a (((Cnd.p (Wk (AV.v (Value.bool (decide (Int.ofNat n > Int.ofNat 8192)))) (AV.lit false))).a Cnd.t).a (((Cnd.p (Wk (AV.v (Value.bool (decide (Int.ofNat n < Int.ofNat 4)))) (AV.lit false))).a Cnd.t).a (((Cnd.p (true = true)).a Cnd.t).a (((Cnd.p (true = true)).a ((Cnd.p (n.ble len = true)).a ((Cnd.p (len.ble len = true)).a Cnd.t))).a (((Cnd.p (off + n ≤ (AV.rens (sgN (nm01 (0, 1002)) [] 0) (rowV encB P)).length ∧ List.take n (List.drop off (AV.rens (sgN (nm01 (0, 1002)) [] 0) (rowV encB P))) = vmap (List.map (fun b => Value.int IntKind.u8 ↑b.toNat) s1.data.toList))).a Cnd.t).a (((Cnd.p (s1.size ≤ 9223372036854775807)).a ((Cnd.p (Wk (AV.v (Value.string (sufB s1 (ByteArray.mk (Array.mk [13, 10, 13, 10]))))) (AV.v (Value.string s2)))).a Cnd.t)).a (((Cnd.p (1 ≤ 2 ∧ s2.size < 4294967281)).a ((Cnd.p (OW (AO.cells (vmap (List.map Value.string (splB s2 (ByteArray.mk (Array.mk [13, 10]))))) 18) (AO.cells (rowV encS M) 18))).a ((Cnd.p (Wk (AV.slice 1101 0 (List.map Value.string (splB s2 (ByteArray.mk (Array.mk [13, 10])))).length 1 (Cp.lo (List.map Value.string (splB s2 (ByteArray.mk (Array.mk [13, 10])))).length)) (AV.slice 1101 0 (r + 1) 1 (Cp.lo (r + 1))))).a Cnd.t))).a (((Cnd.p (true = true)).a Cnd.t).a (((Cnd.p (Nat.blt 0 (rowV encS M).length = true)).a ((Cnd.p ((rowV encS M).getD 0 (AV.undef) = AV.v (Value.string ((rowV encS M).getD 0 (AV.undef)).strOf))).a ((Cnd.p (Wk (AV.v (Value.string ((rowV encS M).getD 0 (AV.undef)).strOf)) (AV.v (Value.string l0)))).a Cnd.t))).a (((Cnd.p True).a ((Cnd.p (VW [AV.v (Value.string l0), AV.ptr 1100 0] [AV.v (Value.string l0), AV.ptr 1100 0])).a ((Cnd.p (OW (AO.cells [AV.v (Value.string (ByteArray.mk (Array.mk []))), AV.v (Value.string (ByteArray.mk (Array.mk []))), AV.v (Value.slice none 0 0), AV.v (Value.slice none 0 0)] 64) (AO.cells [AV.v (Value.string nil0), AV.v (Value.string nil0), AV.v (Value.slice none 0 0), AV.v (Value.slice none 0 0)] 64))).a Cnd.t))).a (((Cnd.p (Wk (AV.v (Value.bool false)) (AV.lit false))).a Cnd.t).a (((Cnd.p (true = true)).a ((Cnd.p ((r + 1).ble (r + 1) = true)).a ((Cnd.p ((r + 1).ble (r + 1) = true)).a ((Cnd.p (Wk (AV.slice 1101 1 r 1 (Cp.lo r)) (AV.slice 1101 1 r 1 (Cp.lo r)))).a Cnd.t)))).a (((Cnd.p (Wk (AV.v (Value.int IntKind.i64 ↑r)) (AV.v (Value.int IntKind.i64 (Int.ofNat r))))).a Cnd.t).a ((Cnd.p ((fNext, 11, loopN fNext 11, lNl P off len M m t n r L).snd.snd.fst = (fNext, 11, loopN fNext 11, lNl P off len M m t n r L).snd.snd.fst)).a ((Cnd.p True).a ((Cnd.p (VW [AV.ptr 0 0, AV.undef, AV.ptr 1100 0, AV.v (Value.bool false), AV.v (Value.int IntKind.i64 (Int.ofNat 0)), AV.v (Value.int IntKind.i64 (Int.ofNat n)), AV.slice 1101 0 (r + 1) 1 (Cp.lo (r + 1)), AV.undef, AV.undef, AV.undef, AV.undef, AV.ptr 0 0, AV.v (Value.int IntKind.i64 (Int.ofNat n)), AV.lit false, AV.v (Value.int IntKind.i64 (Int.ofNat n)), AV.lit false, AV.lit false, AV.undef, AV.undef, AV.lit false, AV.lit false, AV.undef, AV.undef, AV.undef, AV.undef, AV.undef, AV.undef, AV.lit false, AV.v (Value.int IntKind.i64 (Int.ofNat n)), AV.lit false, AV.undef, AV.lit false, AV.v (Value.int IntKind.i64 (Int.ofNat n)), AV.lit false, AV.lit false, AV.undef, AV.undef, AV.lit false, AV.undef, AV.ptr 0 0, AV.ptr 0 0, AV.ptr 0 0, AV.slice 1002 off len 1 (Cp.lo len), AV.v (Value.int IntKind.i64 (Int.ofNat n)), AV.slice 1002 off n 1 (Cp.lo len), AV.v (Value.string s1), AV.v (Value.string s2), AV.slice 1101 0 (r + 1) 1 (Cp.lo (r + 1)), AV.slice 1101 0 (r + 1) 1 (Cp.lo (r + 1)), AV.ptr 1101 0, AV.v (Value.string l0), AV.v (Value.bool true), AV.lit false, AV.undef, AV.slice 1101 0 (r + 1) 1 (Cp.lo (r + 1)), AV.slice 1101 1 r 1 (Cp.lo r), AV.v (Value.int IntKind.i64 (Int.ofNat r)), AV.v (Value.int IntKind.i64 (Int.ofNat 0)), AV.undef, AV.undef, AV.undef, AV.undef, AV.undef, AV.undef, AV.undef, AV.undef, AV.undef, AV.undef, AV.undef, AV.undef, AV.undef, AV.undef, AV.undef, AV.undef, AV.undef, AV.undef, AV.undef, AV.undef, AV.undef, AV.undef, AV.undef, AV.undef, AV.undef, AV.undef, AV.undef, AV.undef, AV.undef, AV.undef, AV.undef, AV.undef, AV.undef, AV.undef, AV.undef, AV.undef, AV.undef, AV.undef, AV.undef, AV.undef, AV.undef, AV.undef, AV.undef, AV.undef, AV.undef, AV.undef, AV.undef, AV.undef, AV.undef, AV.undef, AV.undef, AV.undef, AV.undef, AV.undef, AV.undef] [AV.ptr 0 0, AV.any, AV.ptr 1100 0, AV.any, AV.any, AV.v (Value.int IntKind.i64 (Int.ofNat n)), AV.any, AV.any, AV.any, AV.any, AV.any, AV.any, AV.any, AV.any, AV.any, AV.any, AV.any, AV.any, AV.any, AV.any, AV.any, AV.any, AV.any, AV.any, AV.any, AV.any, AV.any, AV.any, AV.any, AV.any, AV.any, AV.any, AV.any, AV.any, AV.any, AV.any, AV.any, AV.any, AV.any, AV.any, AV.any, AV.any, AV.any, AV.any, AV.any, AV.any, AV.any, AV.any, AV.any, AV.any, AV.any, AV.any, AV.any, AV.any, AV.any, AV.slice 1101 1 r 1 (Cp.lo r), AV.v (Value.int IntKind.i64 (Int.ofNat r)), AV.v (Value.int IntKind.i64 (Int.ofNat 0)), AV.any, AV.any, AV.any, AV.any, AV.any, AV.any, AV.any, AV.any, AV.any, AV.any, AV.any, AV.any, AV.any, AV.any, AV.any, AV.any, AV.any, AV.any, AV.any, AV.any, AV.any, AV.any, AV.any, AV.any, AV.any, AV.any, AV.any, AV.any, AV.any, AV.any, AV.any, AV.any, AV.any, AV.any, AV.any, AV.any, AV.any, AV.any, AV.any, AV.any, AV.any, AV.any, AV.any, AV.any, AV.any, AV.any, AV.any, AV.any, AV.any, AV.any, AV.any, AV.any, AV.any, AV.any, AV.any])).a ((Cnd.p (OW (AO.cells [AV.v (Value.string m), AV.v (Value.string t), AV.v (Value.slice none 0 0), AV.v (Value.slice none 0 0)] 64) (AO.cells [AV.v (Value.string m), AV.v (Value.string t), AV.v (Value.slice none 0 0), AV.v (Value.slice none 0 0)] 64))).a ((Cnd.p (OW (AO.cells (rowV encS M) 18) (AO.cells (AV.rens (nmNl ((1100, 1101), 0, 1002)) (rowV encS M)) 18))).a ((Cnd.p (OW (AO.cells [AV.slice 1002 off len 1 (Cp.lo len)] 122) (AO.cells [AV.slice 1002 off len 1 (Cp.lo len)] 122))).a ((Cnd.p (OW (AO.cells (AV.rens (sgN (nm01 (0, 1002)) [] 0) (rowV encB P)) 11) (AO.cells (AV.rens (nmNl ((1100, 1101), 0, 1002)) (rowV encB P)) 11))).a (((Cnd.p (true = true)).a ((Cnd.p ([AV.v (Value.string m), AV.v (Value.string t), AV.slice 1102 0 (List.length L) 2 (Cp.lo (List.length L)), AV.v (Value.slice none 0 0)] = [AV.v (Value.string m), AV.v (Value.string t), AV.slice 1102 0 (List.length L) 2 (Cp.lo (List.length L)), AV.v (Value.slice none 0 0)])).a Cnd.t)).a (((Cnd.p True).a ((Cnd.p (VW [AV.agg [AV.v (Value.string m), AV.v (Value.string t), AV.slice 1102 0 (List.length L) 2 (Cp.lo (List.length L)), AV.v (Value.slice none 0 0)]] [AV.agg [AV.v (Value.string m), AV.v (Value.string t), AV.slice 1102 0 (List.length L) 2 (Cp.lo (List.length L)), AV.v (Value.slice none 0 0)]])).a ((Cnd.p (OW (AO.cells (AV.rens (sgN (nmNl ((1100, 1101), 0, 1002)) [1000] 1102) (rowV encP L)) 78) (AO.cells (AV.rens (nm0 1102) (rowV encP L)) 78))).a Cnd.t))).a (((Cnd.p (Wk (AV.v (Value.bool false)) (AV.lit false))).a Cnd.t).a (((Cnd.p (Wk (AV.v (Value.bool (decide (Int.ofNat sz > Int.ofNat 65536)))) (AV.lit true))).a Cnd.t).a (((Cnd.p (true = true)).a Cnd.t).a ((Cnd.p (true = true)).a ((Cnd.p ([AV.v (Value.string (ByteArray.mk (Array.mk []))), AV.v (Value.string (ByteArray.mk (Array.mk []))), AV.v (Value.slice none 0 0), AV.v (Value.slice none 0 0)] = [AV.v (Value.string (ByteArray.mk (Array.mk []))), AV.v (Value.string (ByteArray.mk (Array.mk []))), AV.v (Value.slice none 0 0), AV.v (Value.slice none 0 0)])).a Cnd.t))))))))))))))))))))))))))))) := by kernel_rfl
theorem oNx8_eq (W : World) (P : List UInt8) (s1 s2 l0 m t : ByteArray) (M : List ByteArray) (L : Hds) (off len n r sz : Nat) (F : HP) : wRun (cA P off len n l0 m t true ++ [(fLen, cLen L m t (Int.ofNat sz) true)]) (hintL (hxA false false false false ++ hxB s1 s2 l0 M r false ++ hxC n sz false false true)) [(fNext, 11, loopN fNext 11, lNl P off len M m t n r L)] W fNext [.ptr 0 0] [(0, pO 1002 off len), (1002, rB1 P)] kNx F = VT.leaf (AV.tuple [AV.agg [AV.v (Value.string (ByteArray.mk (Array.mk []))), AV.v (Value.string (ByteArray.mk (Array.mk []))), AV.v (Value.slice none 0 0), AV.v (Value.slice none 0 0)], AV.v (Value.bool false), AV.v (Value.int IntKind.i64 (Int.ofNat 0))]) [some (AO.cells [AV.slice 1002 off len 1 (Cp.lo len)] 122), some (AO.cells (AV.rens (sgN (nmNl ((1100, 1101), 0, 1002)) [1000] 1102) (rowV encB P)) 11), some (AO.cells [AV.v (Value.string (ByteArray.mk (Array.mk []))), AV.v (Value.string (ByteArray.mk (Array.mk []))), AV.v (Value.slice none 0 0), AV.v (Value.slice none 0 0)] 64), none, some (AO.cells (AV.rens (sgN (nm0 1102) [] 0) (rowV encP L)) 78), none, none] 1103 (((Cnd.p True).a ((Cnd.p (VW [AV.ptr 0 0] [AV.ptr 0 0])).a ((Cnd.p (OW (AO.cells [AV.slice 1002 off len 1 (Cp.lo len)] 122) (AO.cells [AV.slice 1002 off len 1 (Cp.lo len)] 122))).a ((Cnd.p (OW (AO.cells (rowV encB P) 11) (AO.cells (AV.rens (nm01 (0, 1002)) (rowV encB P)) 11))).a Cnd.t)))).a (((Cnd.p (Wk (AV.v (Value.bool (decide (Int.ofNat n < Int.ofNat 4)))) (AV.lit false))).a Cnd.t).a (((Cnd.p (Wk (AV.v (Value.bool (decide (Int.ofNat n > Int.ofNat 8192)))) (AV.lit false))).a Cnd.t).a (((Cnd.p (Wk (AV.v (Value.bool (decide (Int.ofNat n < Int.ofNat 4)))) (AV.lit false))).a Cnd.t).a (((Cnd.p (true = true)).a Cnd.t).a (((Cnd.p (true = true)).a ((Cnd.p (n.ble len = true)).a ((Cnd.p (len.ble len = true)).a Cnd.t))).a (((Cnd.p (off + n ≤ (AV.rens (sgN (nm01 (0, 1002)) [] 0) (rowV encB P)).length ∧ List.take n (List.drop off (AV.rens (sgN (nm01 (0, 1002)) [] 0) (rowV encB P))) = vmap (List.map (fun b => Value.int IntKind.u8 ↑b.toNat) s1.data.toList))).a Cnd.t).a (((Cnd.p (s1.size ≤ 9223372036854775807)).a ((Cnd.p (Wk (AV.v (Value.string (sufB s1 (ByteArray.mk (Array.mk [13, 10, 13, 10]))))) (AV.v (Value.string s2)))).a Cnd.t)).a (((Cnd.p (1 ≤ 2 ∧ s2.size < 4294967281)).a ((Cnd.p (OW (AO.cells (vmap (List.map Value.string (splB s2 (ByteArray.mk (Array.mk [13, 10]))))) 18) (AO.cells (rowV encS M) 18))).a ((Cnd.p (Wk (AV.slice 1101 0 (List.map Value.string (splB s2 (ByteArray.mk (Array.mk [13, 10])))).length 1 (Cp.lo (List.map Value.string (splB s2 (ByteArray.mk (Array.mk [13, 10])))).length)) (AV.slice 1101 0 (r + 1) 1 (Cp.lo (r + 1))))).a Cnd.t))).a (((Cnd.p (true = true)).a Cnd.t).a (((Cnd.p (Nat.blt 0 (rowV encS M).length = true)).a ((Cnd.p ((rowV encS M).getD 0 (AV.undef) = AV.v (Value.string ((rowV encS M).getD 0 (AV.undef)).strOf))).a ((Cnd.p (Wk (AV.v (Value.string ((rowV encS M).getD 0 (AV.undef)).strOf)) (AV.v (Value.string l0)))).a Cnd.t))).a (((Cnd.p True).a ((Cnd.p (VW [AV.v (Value.string l0), AV.ptr 1100 0] [AV.v (Value.string l0), AV.ptr 1100 0])).a ((Cnd.p (OW (AO.cells [AV.v (Value.string (ByteArray.mk (Array.mk []))), AV.v (Value.string (ByteArray.mk (Array.mk []))), AV.v (Value.slice none 0 0), AV.v (Value.slice none 0 0)] 64) (AO.cells [AV.v (Value.string nil0), AV.v (Value.string nil0), AV.v (Value.slice none 0 0), AV.v (Value.slice none 0 0)] 64))).a Cnd.t))).a (((Cnd.p (Wk (AV.v (Value.bool false)) (AV.lit false))).a Cnd.t).a (((Cnd.p (true = true)).a ((Cnd.p ((r + 1).ble (r + 1) = true)).a ((Cnd.p ((r + 1).ble (r + 1) = true)).a ((Cnd.p (Wk (AV.slice 1101 1 r 1 (Cp.lo r)) (AV.slice 1101 1 r 1 (Cp.lo r)))).a Cnd.t)))).a (((Cnd.p (Wk (AV.v (Value.int IntKind.i64 ↑r)) (AV.v (Value.int IntKind.i64 (Int.ofNat r))))).a Cnd.t).a ((Cnd.p ((fNext, 11, loopN fNext 11, lNl P off len M m t n r L).snd.snd.fst = (fNext, 11, loopN fNext 11, lNl P off len M m t n r L).snd.snd.fst)).a ((Cnd.p True).a ((Cnd.p (VW [AV.ptr 0 0, AV.undef, AV.ptr 1100 0, AV.v (Value.bool false), AV.v (Value.int IntKind.i64 (Int.ofNat 0)), AV.v (Value.int IntKind.i64 (Int.ofNat n)), AV.slice 1101 0 (r + 1) 1 (Cp.lo (r + 1)), AV.undef, AV.undef, AV.undef, AV.undef, AV.ptr 0 0, AV.v (Value.int IntKind.i64 (Int.ofNat n)), AV.lit false, AV.v (Value.int IntKind.i64 (Int.ofNat n)), AV.lit false, AV.lit false, AV.undef, AV.undef, AV.lit false, AV.lit false, AV.undef, AV.undef, AV.undef, AV.undef, AV.undef, AV.undef, AV.lit false, AV.v (Value.int IntKind.i64 (Int.ofNat n)), AV.lit false, AV.undef, AV.lit false, AV.v (Value.int IntKind.i64 (Int.ofNat n)), AV.lit false, AV.lit false, AV.undef, AV.undef, AV.lit false, AV.undef, AV.ptr 0 0, AV.ptr 0 0, AV.ptr 0 0, AV.slice 1002 off len 1 (Cp.lo len), AV.v (Value.int IntKind.i64 (Int.ofNat n)), AV.slice 1002 off n 1 (Cp.lo len), AV.v (Value.string s1), AV.v (Value.string s2), AV.slice 1101 0 (r + 1) 1 (Cp.lo (r + 1)), AV.slice 1101 0 (r + 1) 1 (Cp.lo (r + 1)), AV.ptr 1101 0, AV.v (Value.string l0), AV.v (Value.bool true), AV.lit false, AV.undef, AV.slice 1101 0 (r + 1) 1 (Cp.lo (r + 1)), AV.slice 1101 1 r 1 (Cp.lo r), AV.v (Value.int IntKind.i64 (Int.ofNat r)), AV.v (Value.int IntKind.i64 (Int.ofNat 0)), AV.undef, AV.undef, AV.undef, AV.undef, AV.undef, AV.undef, AV.undef, AV.undef, AV.undef, AV.undef, AV.undef, AV.undef, AV.undef, AV.undef, AV.undef, AV.undef, AV.undef, AV.undef, AV.undef, AV.undef, AV.undef, AV.undef, AV.undef, AV.undef, AV.undef, AV.undef, AV.undef, AV.undef, AV.undef, AV.undef, AV.undef, AV.undef, AV.undef, AV.undef, AV.undef, AV.undef, AV.undef, AV.undef, AV.undef, AV.undef, AV.undef, AV.undef, AV.undef, AV.undef, AV.undef, AV.undef, AV.undef, AV.undef, AV.undef, AV.undef, AV.undef, AV.undef, AV.undef, AV.undef, AV.undef] [AV.ptr 0 0, AV.any, AV.ptr 1100 0, AV.any, AV.any, AV.v (Value.int IntKind.i64 (Int.ofNat n)), AV.any, AV.any, AV.any, AV.any, AV.any, AV.any, AV.any, AV.any, AV.any, AV.any, AV.any, AV.any, AV.any, AV.any, AV.any, AV.any, AV.any, AV.any, AV.any, AV.any, AV.any, AV.any, AV.any, AV.any, AV.any, AV.any, AV.any, AV.any, AV.any, AV.any, AV.any, AV.any, AV.any, AV.any, AV.any, AV.any, AV.any, AV.any, AV.any, AV.any, AV.any, AV.any, AV.any, AV.any, AV.any, AV.any, AV.any, AV.any, AV.any, AV.slice 1101 1 r 1 (Cp.lo r), AV.v (Value.int IntKind.i64 (Int.ofNat r)), AV.v (Value.int IntKind.i64 (Int.ofNat 0)), AV.any, AV.any, AV.any, AV.any, AV.any, AV.any, AV.any, AV.any, AV.any, AV.any, AV.any, AV.any, AV.any, AV.any, AV.any, AV.any, AV.any, AV.any, AV.any, AV.any, AV.any, AV.any, AV.any, AV.any, AV.any, AV.any, AV.any, AV.any, AV.any, AV.any, AV.any, AV.any, AV.any, AV.any, AV.any, AV.any, AV.any, AV.any, AV.any, AV.any, AV.any, AV.any, AV.any, AV.any, AV.any, AV.any, AV.any, AV.any, AV.any, AV.any, AV.any, AV.any, AV.any, AV.any, AV.any])).a ((Cnd.p (OW (AO.cells [AV.v (Value.string m), AV.v (Value.string t), AV.v (Value.slice none 0 0), AV.v (Value.slice none 0 0)] 64) (AO.cells [AV.v (Value.string m), AV.v (Value.string t), AV.v (Value.slice none 0 0), AV.v (Value.slice none 0 0)] 64))).a ((Cnd.p (OW (AO.cells (rowV encS M) 18) (AO.cells (AV.rens (nmNl ((1100, 1101), 0, 1002)) (rowV encS M)) 18))).a ((Cnd.p (OW (AO.cells [AV.slice 1002 off len 1 (Cp.lo len)] 122) (AO.cells [AV.slice 1002 off len 1 (Cp.lo len)] 122))).a ((Cnd.p (OW (AO.cells (AV.rens (sgN (nm01 (0, 1002)) [] 0) (rowV encB P)) 11) (AO.cells (AV.rens (nmNl ((1100, 1101), 0, 1002)) (rowV encB P)) 11))).a (((Cnd.p (true = true)).a ((Cnd.p ([AV.v (Value.string m), AV.v (Value.string t), AV.slice 1102 0 (List.length L) 2 (Cp.lo (List.length L)), AV.v (Value.slice none 0 0)] = [AV.v (Value.string m), AV.v (Value.string t), AV.slice 1102 0 (List.length L) 2 (Cp.lo (List.length L)), AV.v (Value.slice none 0 0)])).a Cnd.t)).a (((Cnd.p True).a ((Cnd.p (VW [AV.agg [AV.v (Value.string m), AV.v (Value.string t), AV.slice 1102 0 (List.length L) 2 (Cp.lo (List.length L)), AV.v (Value.slice none 0 0)]] [AV.agg [AV.v (Value.string m), AV.v (Value.string t), AV.slice 1102 0 (List.length L) 2 (Cp.lo (List.length L)), AV.v (Value.slice none 0 0)]])).a ((Cnd.p (OW (AO.cells (AV.rens (sgN (nmNl ((1100, 1101), 0, 1002)) [1000] 1102) (rowV encP L)) 78) (AO.cells (AV.rens (nm0 1102) (rowV encP L)) 78))).a Cnd.t))).a (((Cnd.p (Wk (AV.v (Value.bool false)) (AV.lit false))).a Cnd.t).a (((Cnd.p (Wk (AV.v (Value.bool (decide (Int.ofNat sz > Int.ofNat 65536)))) (AV.lit false))).a Cnd.t).a (((Cnd.p (true = true)).a Cnd.t).a (((Cnd.p (Wk (AV.v (Value.bool (decide (IntKind.i64.wrap (↑len - Int.ofNat n) < Int.ofNat sz)))) (AV.lit true))).a Cnd.t).a (((Cnd.p (true = true)).a Cnd.t).a ((Cnd.p (true = true)).a ((Cnd.p ([AV.v (Value.string (ByteArray.mk (Array.mk []))), AV.v (Value.string (ByteArray.mk (Array.mk []))), AV.v (Value.slice none 0 0), AV.v (Value.slice none 0 0)] = [AV.v (Value.string (ByteArray.mk (Array.mk []))), AV.v (Value.string (ByteArray.mk (Array.mk []))), AV.v (Value.slice none 0 0), AV.v (Value.slice none 0 0)])).a Cnd.t))))))))))))))))))))))))))))))) := by kernel_rfl
theorem oNx9R_eq (W : World) (P : List UInt8) (s1 s2 l0 m t : ByteArray) (M : List ByteArray) (L : Hds) (off len n r sz : Nat) (B : List UInt8) (F : HP) : wRun (cA P off len n l0 m t true ++ [(fLen, cLen L m t (Int.ofNat sz) true)]) (hintL (hxA false false false false ++ hxB s1 s2 l0 M r false ++ hxC n sz false false false ++ [(fClone, 1, 1, hv (.lit false)), (fClone, 3, 2, hvo (sB 1104 sz) 1104 (rB B))])) [(fNext, 11, loopN fNext 11, lNl P off len M m t n r L)] W fNext [.ptr 0 0] [(0, pO 1002 off len), (1002, rB1 P)] kNx F = VT.leaf (AV.tuple [AV.agg [AV.v (Value.string m), AV.v (Value.string t), AV.slice 1102 0 (List.length L) 2 (Cp.lo (List.length L)), AV.slice 1104 0 sz 1 (Cp.lo sz)], AV.v (Value.bool true), AV.v (Value.int IntKind.i64 (Int.ofNat 0))]) [some (AO.cells [AV.slice 1002 (off + (n + sz) * 1) (len - (n + sz)) 1 (Cp.lo (len - (n + sz)))] 122), some (AO.cells (AV.rens (sgN (nmNl ((1100, 1101), 0, 1002)) [1000] 1102) (rowV encB P)) 11), some (AO.cells [AV.v (Value.string m), AV.v (Value.string t), AV.slice 1102 0 (List.length L) 2 (Cp.lo (List.length L)), AV.slice 1104 0 sz 1 (Cp.lo sz)] 64), none, some (AO.cells (AV.rens (sgN (nm0 1102) [] 0) (rowV encP L)) 78), some (AO.cells (rep [AV.v (Value.int IntKind.u8 (Int.ofNat 0))] 0) 10), some (AO.cells (rowV encB B) 10)] 1105 (((Cnd.p True).a ((Cnd.p (VW [AV.ptr 0 0] [AV.ptr 0 0])).a ((Cnd.p (OW (AO.cells [AV.slice 1002 off len 1 (Cp.lo len)] 122) (AO.cells [AV.slice 1002 off len 1 (Cp.lo len)] 122))).a ((Cnd.p (OW (AO.cells (rowV encB P) 11) (AO.cells (AV.rens (nm01 (0, 1002)) (rowV encB P)) 11))).a Cnd.t)))).a (((Cnd.p (Wk (AV.v (Value.bool (decide (Int.ofNat n < Int.ofNat 4)))) (AV.lit false))).a Cnd.t).a (((Cnd.p (Wk (AV.v (Value.bool (decide (Int.ofNat n > Int.ofNat 8192)))) (AV.lit false))).a Cnd.t).a (((Cnd.p (Wk (AV.v (Value.bool (decide (Int.ofNat n < Int.ofNat 4)))) (AV.lit false))).a Cnd.t).a (((Cnd.p (true = true)).a Cnd.t).a (((Cnd.p (true = true)).a ((Cnd.p (n.ble len = true)).a ((Cnd.p (len.ble len = true)).a Cnd.t))).a (((Cnd.p (off + n ≤ (AV.rens (sgN (nm01 (0, 1002)) [] 0) (rowV encB P)).length ∧ List.take n (List.drop off (AV.rens (sgN (nm01 (0, 1002)) [] 0) (rowV encB P))) = vmap (List.map (fun b => Value.int IntKind.u8 ↑b.toNat) s1.data.toList))).a Cnd.t).a (((Cnd.p (s1.size ≤ 9223372036854775807)).a ((Cnd.p (Wk (AV.v (Value.string (sufB s1 (ByteArray.mk (Array.mk [13, 10, 13, 10]))))) (AV.v (Value.string s2)))).a Cnd.t)).a (((Cnd.p (1 ≤ 2 ∧ s2.size < 4294967281)).a ((Cnd.p (OW (AO.cells (vmap (List.map Value.string (splB s2 (ByteArray.mk (Array.mk [13, 10]))))) 18) (AO.cells (rowV encS M) 18))).a ((Cnd.p (Wk (AV.slice 1101 0 (List.map Value.string (splB s2 (ByteArray.mk (Array.mk [13, 10])))).length 1 (Cp.lo (List.map Value.string (splB s2 (ByteArray.mk (Array.mk [13, 10])))).length)) (AV.slice 1101 0 (r + 1) 1 (Cp.lo (r + 1))))).a Cnd.t))).a (((Cnd.p (true = true)).a Cnd.t).a (((Cnd.p (Nat.blt 0 (rowV encS M).length = true)).a ((Cnd.p ((rowV encS M).getD 0 (AV.undef) = AV.v (Value.string ((rowV encS M).getD 0 (AV.undef)).strOf))).a ((Cnd.p (Wk (AV.v (Value.string ((rowV encS M).getD 0 (AV.undef)).strOf)) (AV.v (Value.string l0)))).a Cnd.t))).a (((Cnd.p True).a ((Cnd.p (VW [AV.v (Value.string l0), AV.ptr 1100 0] [AV.v (Value.string l0), AV.ptr 1100 0])).a ((Cnd.p (OW (AO.cells [AV.v (Value.string (ByteArray.mk (Array.mk []))), AV.v (Value.string (ByteArray.mk (Array.mk []))), AV.v (Value.slice none 0 0), AV.v (Value.slice none 0 0)] 64) (AO.cells [AV.v (Value.string nil0), AV.v (Value.string nil0), AV.v (Value.slice none 0 0), AV.v (Value.slice none 0 0)] 64))).a Cnd.t))).a (((Cnd.p (Wk (AV.v (Value.bool false)) (AV.lit false))).a Cnd.t).a (((Cnd.p (true = true)).a ((Cnd.p ((r + 1).ble (r + 1) = true)).a ((Cnd.p ((r + 1).ble (r + 1) = true)).a ((Cnd.p (Wk (AV.slice 1101 1 r 1 (Cp.lo r)) (AV.slice 1101 1 r 1 (Cp.lo r)))).a Cnd.t)))).a (((Cnd.p (Wk (AV.v (Value.int IntKind.i64 ↑r)) (AV.v (Value.int IntKind.i64 (Int.ofNat r))))).a Cnd.t).a ((Cnd.p ((fNext, 11, loopN fNext 11, lNl P off len M m t n r L).snd.snd.fst = (fNext, 11, loopN fNext 11, lNl P off len M m t n r L).snd.snd.fst)).a ((Cnd.p True).a ((Cnd.p (VW [AV.ptr 0 0, AV.undef, AV.ptr 1100 0, AV.v (Value.bool false), AV.v (Value.int IntKind.i64 (Int.ofNat 0)), AV.v (Value.int IntKind.i64 (Int.ofNat n)), AV.slice 1101 0 (r + 1) 1 (Cp.lo (r + 1)), AV.undef, AV.undef, AV.undef, AV.undef, AV.ptr 0 0, AV.v (Value.int IntKind.i64 (Int.ofNat n)), AV.lit false, AV.v (Value.int IntKind.i64 (Int.ofNat n)), AV.lit false, AV.lit false, AV.undef, AV.undef, AV.lit false, AV.lit false, AV.undef, AV.undef, AV.undef, AV.undef, AV.undef, AV.undef, AV.lit false, AV.v (Value.int IntKind.i64 (Int.ofNat n)), AV.lit false, AV.undef, AV.lit false, AV.v (Value.int IntKind.i64 (Int.ofNat n)), AV.lit false, AV.lit false, AV.undef, AV.undef, AV.lit false, AV.undef, AV.ptr 0 0, AV.ptr 0 0, AV.ptr 0 0, AV.slice 1002 off len 1 (Cp.lo len), AV.v (Value.int IntKind.i64 (Int.ofNat n)), AV.slice 1002 off n 1 (Cp.lo len), AV.v (Value.string s1), AV.v (Value.string s2), AV.slice 1101 0 (r + 1) 1 (Cp.lo (r + 1)), AV.slice 1101 0 (r + 1) 1 (Cp.lo (r + 1)), AV.ptr 1101 0, AV.v (Value.string l0), AV.v (Value.bool true), AV.lit false, AV.undef, AV.slice 1101 0 (r + 1) 1 (Cp.lo (r + 1)), AV.slice 1101 1 r 1 (Cp.lo r), AV.v (Value.int IntKind.i64 (Int.ofNat r)), AV.v (Value.int IntKind.i64 (Int.ofNat 0)), AV.undef, AV.undef, AV.undef, AV.undef, AV.undef, AV.undef, AV.undef, AV.undef, AV.undef, AV.undef, AV.undef, AV.undef, AV.undef, AV.undef, AV.undef, AV.undef, AV.undef, AV.undef, AV.undef, AV.undef, AV.undef, AV.undef, AV.undef, AV.undef, AV.undef, AV.undef, AV.undef, AV.undef, AV.undef, AV.undef, AV.undef, AV.undef, AV.undef, AV.undef, AV.undef, AV.undef, AV.undef, AV.undef, AV.undef, AV.undef, AV.undef, AV.undef, AV.undef, AV.undef, AV.undef, AV.undef, AV.undef, AV.undef, AV.undef, AV.undef, AV.undef, AV.undef, AV.undef, AV.undef, AV.undef] [AV.ptr 0 0, AV.any, AV.ptr 1100 0, AV.any, AV.any, AV.v (Value.int IntKind.i64 (Int.ofNat n)), AV.any, AV.any, AV.any, AV.any, AV.any, AV.any, AV.any, AV.any, AV.any, AV.any, AV.any, AV.any, AV.any, AV.any, AV.any, AV.any, AV.any, AV.any, AV.any, AV.any, AV.any, AV.any, AV.any, AV.any, AV.any, AV.any, AV.any, AV.any, AV.any, AV.any, AV.any, AV.any, AV.any, AV.any, AV.any, AV.any, AV.any, AV.any, AV.any, AV.any, AV.any, AV.any, AV.any, AV.any, AV.any, AV.any, AV.any, AV.any, AV.any, AV.slice 1101 1 r 1 (Cp.lo r), AV.v (Value.int IntKind.i64 (Int.ofNat r)), AV.v (Value.int IntKind.i64 (Int.ofNat 0)), AV.any, AV.any, AV.any, AV.any, AV.any, AV.any, AV.any, AV.any, AV.any, AV.any, AV.any, AV.any, AV.any, AV.any, AV.any, AV.any, AV.any, AV.any, AV.any, AV.any, AV.any, AV.any, AV.any, AV.any, AV.any, AV.any, AV.any, AV.any, AV.any, AV.any, AV.any, AV.any, AV.any, AV.any, AV.any, AV.any, AV.any, AV.any, AV.any, AV.any, AV.any, AV.any, AV.any, AV.any, AV.any, AV.any, AV.any, AV.any, AV.any, AV.any, AV.any, AV.any, AV.any, AV.any, AV.any])).a ((Cnd.p (OW (AO.cells [AV.v (Value.string m), AV.v (Value.string t), AV.v (Value.slice none 0 0), AV.v (Value.slice none 0 0)] 64) (AO.cells [AV.v (Value.string m), AV.v (Value.string t), AV.v (Value.slice none 0 0), AV.v (Value.slice none 0 0)] 64))).a ((Cnd.p (OW (AO.cells (rowV encS M) 18) (AO.cells (AV.rens (nmNl ((1100, 1101), 0, 1002)) (rowV encS M)) 18))).a ((Cnd.p (OW (AO.cells [AV.slice 1002 off len 1 (Cp.lo len)] 122) (AO.cells [AV.slice 1002 off len 1 (Cp.lo len)] 122))).a ((Cnd.p (OW (AO.cells (AV.rens (sgN (nm01 (0, 1002)) [] 0) (rowV encB P)) 11) (AO.cells (AV.rens (nmNl ((1100, 1101), 0, 1002)) (rowV encB P)) 11))).a (((Cnd.p (true = true)).a ((Cnd.p ([AV.v (Value.string m), AV.v (Value.string t), AV.slice 1102 0 (List.length L) 2 (Cp.lo (List.length L)), AV.v (Value.slice none 0 0)] = [AV.v (Value.string m), AV.v (Value.string t), AV.slice 1102 0 (List.length L) 2 (Cp.lo (List.length L)), AV.v (Value.slice none 0 0)])).a Cnd.t)).a (((Cnd.p True).a ((Cnd.p (VW [AV.agg [AV.v (Value.string m), AV.v (Value.string t), AV.slice 1102 0 (List.length L) 2 (Cp.lo (List.length L)), AV.v (Value.slice none 0 0)]] [AV.agg [AV.v (Value.string m), AV.v (Value.string t), AV.slice 1102 0 (List.length L) 2 (Cp.lo (List.length L)), AV.v (Value.slice none 0 0)]])).a ((Cnd.p (OW (AO.cells (AV.rens (sgN (nmNl ((1100, 1101), 0, 1002)) [1000] 1102) (rowV encP L)) 78) (AO.cells (AV.rens (nm0 1102) (rowV encP L)) 78))).a Cnd.t))).a (((Cnd.p (Wk (AV.v (Value.bool false)) (AV.lit false))).a Cnd.t).a (((Cnd.p (Wk (AV.v (Value.bool (decide (Int.ofNat sz > Int.ofNat 65536)))) (AV.lit false))).a Cnd.t).a (((Cnd.p (true = true)).a Cnd.t).a (((Cnd.p (Wk (AV.v (Value.bool (decide (IntKind.i64.wrap (↑len - Int.ofNat n) < Int.ofNat sz)))) (AV.lit false))).a Cnd.t).a (((Cnd.p (true = true)).a Cnd.t).a (((Cnd.p (Wk (AV.v (Value.int IntKind.i64 (IntKind.i64.wrap (Int.ofNat n + Int.ofNat sz)))) (AV.v (Value.int IntKind.i64 (Int.ofNat (n + sz)))))).a Cnd.t).a (((Cnd.p (n.ble (n + sz) = true)).a ((Cnd.p ((n + sz).ble len = true)).a ((Cnd.p (len.ble len = true)).a Cnd.t))).a ((((Cnd.p (Wk (AV.v (Value.bool false)) (AV.lit false))).a Cnd.t).a (((Cnd.p ((n + sz - n).ble (n + sz - n) = true)).a ((Cnd.p ((List.take ((n + sz - n) * 1) (List.drop (off + n * 1) (AV.rens (sgN (nmNl ((1100, 1101), 0, 1002)) [1000] 1102) (rowV encB P)))).length.beq ((n + sz - n) * 1) = true)).a ((Cnd.p ((List.take ((n + sz - n) * 1) (List.drop (off + n * 1) (AV.rens (sgN (nmNl ((1100, 1101), 0, 1002)) [1000] 1102) (rowV encB P)))).all AV.one = true)).a ((Cnd.p (Nat.blt 0 (n + sz - n) = true)).a ((Cnd.p (true = true)).a ((Cnd.p (((0 + (n + sz - n)) * 1).ble 140737488355328 = true)).a ((Cnd.p ((0 + (n + sz - n)).ble 9223372036854775807 = true)).a ((Cnd.p (true = true)).a ((Cnd.p (Nat.blt 0 (0 + (n + sz - n)) = true)).a ((Cnd.p (OW (AO.cells ([] ++ List.take ((n + sz - n) * 1) (List.drop (off + n * 1) (AV.rens (sgN (nmNl ((1100, 1101), 0, 1002)) [1000] 1102) (rowV encB P)))) 10) (AO.cells (rowV encB B) 10))).a ((Cnd.p (Wk (AV.slice 1104 0 (0 + (n + sz - n)) 1 (Cp.lo (0 + (n + sz - n)))) (AV.slice 1104 0 sz 1 (Cp.lo sz)))).a Cnd.t))))))))))).a Cnd.t)).a (((Cnd.p (true = true)).a Cnd.t).a (((Cnd.p (true = true)).a Cnd.t).a (((Cnd.p (Wk (AV.v (Value.int IntKind.i64 (IntKind.i64.wrap (Int.ofNat n + Int.ofNat sz)))) (AV.v (Value.int IntKind.i64 (Int.ofNat (n + sz)))))).a Cnd.t).a (((Cnd.p ((n + sz).ble len = true)).a ((Cnd.p (len.ble len = true)).a ((Cnd.p (len.ble len = true)).a Cnd.t))).a (((Cnd.p (true = true)).a Cnd.t).a (((Cnd.p (true = true)).a ((Cnd.p ([AV.v (Value.string m), AV.v (Value.string t), AV.slice 1102 0 (List.length L) 2 (Cp.lo (List.length L)), AV.slice 1104 0 sz 1 (Cp.lo sz)] = [AV.v (Value.string m), AV.v (Value.string t), AV.slice 1102 0 (List.length L) 2 (Cp.lo (List.length L)), AV.slice 1104 0 sz 1 (Cp.lo sz)])).a Cnd.t)).a (((Cnd.p (true = true)).a Cnd.t).a ((Cnd.p (true = true)).a ((Cnd.p ([AV.v (Value.string m), AV.v (Value.string t), AV.slice 1102 0 (List.length L) 2 (Cp.lo (List.length L)), AV.slice 1104 0 sz 1 (Cp.lo sz)] = [AV.v (Value.string m), AV.v (Value.string t), AV.slice 1102 0 (List.length L) 2 (Cp.lo (List.length L)), AV.slice 1104 0 sz 1 (Cp.lo sz)])).a Cnd.t))))))))))))))))))))))))))))))))))))))))) := by kernel_rfl
theorem oNx9E_eq (W : World) (P : List UInt8) (s1 s2 l0 m t : ByteArray) (M : List ByteArray) (L : Hds) (off len n r sz : Nat) (F : HP) : wRun (cA P off len n l0 m t true ++ [(fLen, cLen L m t (Int.ofNat 0) true)]) (hintL (hxA false false false false ++ hxB s1 s2 l0 M r false ++ hxC n 0 false false false ++ [(fClone, 1, 1, hv (.lit false)), (fClone, 3, 2, h0)])) [(fNext, 11, loopN fNext 11, lNl P off len M m t n r L)] W fNext [.ptr 0 0] [(0, pO 1002 off len), (1002, rB1 P)] kNx F = VT.leaf (AV.tuple [AV.agg [AV.v (Value.string m), AV.v (Value.string t), AV.slice 1102 0 (List.length L) 2 (Cp.lo (List.length L)), AV.slice 1103 0 0 1 (Cp.ex 0)], AV.v (Value.bool true), AV.v (Value.int IntKind.i64 (Int.ofNat 0))]) [some (AO.cells [AV.slice 1002 (off + n * 1) (len - n) 1 (Cp.lo (len - n))] 122), some (AO.cells (AV.rens (sgN (nmNl ((1100, 1101), 0, 1002)) [1000] 1102) (rowV encB P)) 11), some (AO.cells [AV.v (Value.string m), AV.v (Value.string t), AV.slice 1102 0 (List.length L) 2 (Cp.lo (List.length L)), AV.slice 1103 0 0 1 (Cp.ex 0)] 64), none, some (AO.cells (AV.rens (sgN (nm0 1102) [] 0) (rowV encP L)) 78), some (AO.cells (rep [AV.v (Value.int IntKind.u8 (Int.ofNat 0))] 0) 10), none] 1104 (((Cnd.p True).a ((Cnd.p (VW [AV.ptr 0 0] [AV.ptr 0 0])).a ((Cnd.p (OW (AO.cells [AV.slice 1002 off len 1 (Cp.lo len)] 122) (AO.cells [AV.slice 1002 off len 1 (Cp.lo len)] 122))).a ((Cnd.p (OW (AO.cells (rowV encB P) 11) (AO.cells (AV.rens (nm01 (0, 1002)) (rowV encB P)) 11))).a Cnd.t)))).a (((Cnd.p (Wk (AV.v (Value.bool (decide (Int.ofNat n < Int.ofNat 4)))) (AV.lit false))).a Cnd.t).a (((Cnd.p (Wk (AV.v (Value.bool (decide (Int.ofNat n > Int.ofNat 8192)))) (AV.lit false))).a Cnd.t).a (((Cnd.p (Wk (AV.v (Value.bool (decide (Int.ofNat n < Int.ofNat 4)))) (AV.lit false))).a Cnd.t).a (((Cnd.p (true = true)).a Cnd.t).a (((Cnd.p (true = true)).a ((Cnd.p (n.ble len = true)).a ((Cnd.p (len.ble len = true)).a Cnd.t))).a (((Cnd.p (off + n ≤ (AV.rens (sgN (nm01 (0, 1002)) [] 0) (rowV encB P)).length ∧ List.take n (List.drop off (AV.rens (sgN (nm01 (0, 1002)) [] 0) (rowV encB P))) = vmap (List.map (fun b => Value.int IntKind.u8 ↑b.toNat) s1.data.toList))).a Cnd.t).a (((Cnd.p (s1.size ≤ 9223372036854775807)).a ((Cnd.p (Wk (AV.v (Value.string (sufB s1 (ByteArray.mk (Array.mk [13, 10, 13, 10]))))) (AV.v (Value.string s2)))).a Cnd.t)).a (((Cnd.p (1 ≤ 2 ∧ s2.size < 4294967281)).a ((Cnd.p (OW (AO.cells (vmap (List.map Value.string (splB s2 (ByteArray.mk (Array.mk [13, 10]))))) 18) (AO.cells (rowV encS M) 18))).a ((Cnd.p (Wk (AV.slice 1101 0 (List.map Value.string (splB s2 (ByteArray.mk (Array.mk [13, 10])))).length 1 (Cp.lo (List.map Value.string (splB s2 (ByteArray.mk (Array.mk [13, 10])))).length)) (AV.slice 1101 0 (r + 1) 1 (Cp.lo (r + 1))))).a Cnd.t))).a (((Cnd.p (true = true)).a Cnd.t).a (((Cnd.p (Nat.blt 0 (rowV encS M).length = true)).a ((Cnd.p ((rowV encS M).getD 0 (AV.undef) = AV.v (Value.string ((rowV encS M).getD 0 (AV.undef)).strOf))).a ((Cnd.p (Wk (AV.v (Value.string ((rowV encS M).getD 0 (AV.undef)).strOf)) (AV.v (Value.string l0)))).a Cnd.t))).a (((Cnd.p True).a ((Cnd.p (VW [AV.v (Value.string l0), AV.ptr 1100 0] [AV.v (Value.string l0), AV.ptr 1100 0])).a ((Cnd.p (OW (AO.cells [AV.v (Value.string (ByteArray.mk (Array.mk []))), AV.v (Value.string (ByteArray.mk (Array.mk []))), AV.v (Value.slice none 0 0), AV.v (Value.slice none 0 0)] 64) (AO.cells [AV.v (Value.string nil0), AV.v (Value.string nil0), AV.v (Value.slice none 0 0), AV.v (Value.slice none 0 0)] 64))).a Cnd.t))).a (((Cnd.p (Wk (AV.v (Value.bool false)) (AV.lit false))).a Cnd.t).a (((Cnd.p (true = true)).a ((Cnd.p ((r + 1).ble (r + 1) = true)).a ((Cnd.p ((r + 1).ble (r + 1) = true)).a ((Cnd.p (Wk (AV.slice 1101 1 r 1 (Cp.lo r)) (AV.slice 1101 1 r 1 (Cp.lo r)))).a Cnd.t)))).a (((Cnd.p (Wk (AV.v (Value.int IntKind.i64 ↑r)) (AV.v (Value.int IntKind.i64 (Int.ofNat r))))).a Cnd.t).a ((Cnd.p ((fNext, 11, loopN fNext 11, lNl P off len M m t n r L).snd.snd.fst = (fNext, 11, loopN fNext 11, lNl P off len M m t n r L).snd.snd.fst)).a ((Cnd.p True).a ((Cnd.p (VW [AV.ptr 0 0, AV.undef, AV.ptr 1100 0, AV.v (Value.bool false), AV.v (Value.int IntKind.i64 (Int.ofNat 0)), AV.v (Value.int IntKind.i64 (Int.ofNat n)), AV.slice 1101 0 (r + 1) 1 (Cp.lo (r + 1)), AV.undef, AV.undef, AV.undef, AV.undef, AV.ptr 0 0, AV.v (Value.int IntKind.i64 (Int.ofNat n)), AV.lit false, AV.v (Value.int IntKind.i64 (Int.ofNat n)), AV.lit false, AV.lit false, AV.undef, AV.undef, AV.lit false, AV.lit false, AV.undef, AV.undef, AV.undef, AV.undef, AV.undef, AV.undef, AV.lit false, AV.v (Value.int IntKind.i64 (Int.ofNat n)), AV.lit false, AV.undef, AV.lit false, AV.v (Value.int IntKind.i64 (Int.ofNat n)), AV.lit false, AV.lit false, AV.undef, AV.undef, AV.lit false, AV.undef, AV.ptr 0 0, AV.ptr 0 0, AV.ptr 0 0, AV.slice 1002 off len 1 (Cp.lo len), AV.v (Value.int IntKind.i64 (Int.ofNat n)), AV.slice 1002 off n 1 (Cp.lo len), AV.v (Value.string s1), AV.v (Value.string s2), AV.slice 1101 0 (r + 1) 1 (Cp.lo (r + 1)), AV.slice 1101 0 (r + 1) 1 (Cp.lo (r + 1)), AV.ptr 1101 0, AV.v (Value.string l0), AV.v (Value.bool true), AV.lit false, AV.undef, AV.slice 1101 0 (r + 1) 1 (Cp.lo (r + 1)), AV.slice 1101 1 r 1 (Cp.lo r), AV.v (Value.int IntKind.i64 (Int.ofNat r)), AV.v (Value.int IntKind.i64 (Int.ofNat 0)), AV.undef, AV.undef, AV.undef, AV.undef, AV.undef, AV.undef, AV.undef, AV.undef, AV.undef, AV.undef, AV.undef, AV.undef, AV.undef, AV.undef, AV.undef, AV.undef, AV.undef, AV.undef, AV.undef, AV.undef, AV.undef, AV.undef, AV.undef, AV.undef, AV.undef, AV.undef, AV.undef, AV.undef, AV.undef, AV.undef, AV.undef, AV.undef, AV.undef, AV.undef, AV.undef, AV.undef, AV.undef, AV.undef, AV.undef, AV.undef, AV.undef, AV.undef, AV.undef, AV.undef, AV.undef, AV.undef, AV.undef, AV.undef, AV.undef, AV.undef, AV.undef, AV.undef, AV.undef, AV.undef, AV.undef] [AV.ptr 0 0, AV.any, AV.ptr 1100 0, AV.any, AV.any, AV.v (Value.int IntKind.i64 (Int.ofNat n)), AV.any, AV.any, AV.any, AV.any, AV.any, AV.any, AV.any, AV.any, AV.any, AV.any, AV.any, AV.any, AV.any, AV.any, AV.any, AV.any, AV.any, AV.any, AV.any, AV.any, AV.any, AV.any, AV.any, AV.any, AV.any, AV.any, AV.any, AV.any, AV.any, AV.any, AV.any, AV.any, AV.any, AV.any, AV.any, AV.any, AV.any, AV.any, AV.any, AV.any, AV.any, AV.any, AV.any, AV.any, AV.any, AV.any, AV.any, AV.any, AV.any, AV.slice 1101 1 r 1 (Cp.lo r), AV.v (Value.int IntKind.i64 (Int.ofNat r)), AV.v (Value.int IntKind.i64 (Int.ofNat 0)), AV.any, AV.any, AV.any, AV.any, AV.any, AV.any, AV.any, AV.any, AV.any, AV.any, AV.any, AV.any, AV.any, AV.any, AV.any, AV.any, AV.any, AV.any, AV.any, AV.any, AV.any, AV.any, AV.any, AV.any, AV.any, AV.any, AV.any, AV.any, AV.any, AV.any, AV.any, AV.any, AV.any, AV.any, AV.any, AV.any, AV.any, AV.any, AV.any, AV.any, AV.any, AV.any, AV.any, AV.any, AV.any, AV.any, AV.any, AV.any, AV.any, AV.any, AV.any, AV.any, AV.any, AV.any, AV.any])).a ((Cnd.p (OW (AO.cells [AV.v (Value.string m), AV.v (Value.string t), AV.v (Value.slice none 0 0), AV.v (Value.slice none 0 0)] 64) (AO.cells [AV.v (Value.string m), AV.v (Value.string t), AV.v (Value.slice none 0 0), AV.v (Value.slice none 0 0)] 64))).a ((Cnd.p (OW (AO.cells (rowV encS M) 18) (AO.cells (AV.rens (nmNl ((1100, 1101), 0, 1002)) (rowV encS M)) 18))).a ((Cnd.p (OW (AO.cells [AV.slice 1002 off len 1 (Cp.lo len)] 122) (AO.cells [AV.slice 1002 off len 1 (Cp.lo len)] 122))).a ((Cnd.p (OW (AO.cells (AV.rens (sgN (nm01 (0, 1002)) [] 0) (rowV encB P)) 11) (AO.cells (AV.rens (nmNl ((1100, 1101), 0, 1002)) (rowV encB P)) 11))).a (((Cnd.p (true = true)).a ((Cnd.p ([AV.v (Value.string m), AV.v (Value.string t), AV.slice 1102 0 (List.length L) 2 (Cp.lo (List.length L)), AV.v (Value.slice none 0 0)] = [AV.v (Value.string m), AV.v (Value.string t), AV.slice 1102 0 (List.length L) 2 (Cp.lo (List.length L)), AV.v (Value.slice none 0 0)])).a Cnd.t)).a (((Cnd.p True).a ((Cnd.p (VW [AV.agg [AV.v (Value.string m), AV.v (Value.string t), AV.slice 1102 0 (List.length L) 2 (Cp.lo (List.length L)), AV.v (Value.slice none 0 0)]] [AV.agg [AV.v (Value.string m), AV.v (Value.string t), AV.slice 1102 0 (List.length L) 2 (Cp.lo (List.length L)), AV.v (Value.slice none 0 0)]])).a ((Cnd.p (OW (AO.cells (AV.rens (sgN (nmNl ((1100, 1101), 0, 1002)) [1000] 1102) (rowV encP L)) 78) (AO.cells (AV.rens (nm0 1102) (rowV encP L)) 78))).a Cnd.t))).a (((Cnd.p (Wk (AV.v (Value.bool false)) (AV.lit false))).a Cnd.t).a (((Cnd.p (Wk (AV.v (Value.bool false)) (AV.lit false))).a Cnd.t).a (((Cnd.p (true = true)).a Cnd.t).a (((Cnd.p (Wk (AV.v (Value.bool (decide (IntKind.i64.wrap (↑len - Int.ofNat n) < Int.ofNat 0)))) (AV.lit false))).a Cnd.t).a (((Cnd.p (true = true)).a Cnd.t).a (((Cnd.p (Wk (AV.v (Value.int IntKind.i64 (IntKind.i64.wrap (Int.ofNat n + Int.ofNat 0)))) (AV.v (Value.int IntKind.i64 (Int.ofNat n))))).a Cnd.t).a (((Cnd.p (n.ble n = true)).a ((Cnd.p (n.ble len = true)).a ((Cnd.p (len.ble len = true)).a Cnd.t))).a ((((Cnd.p (Wk (AV.v (Value.bool false)) (AV.lit false))).a Cnd.t).a (((Cnd.p (n - n = 0)).a Cnd.t).a Cnd.t)).a (((Cnd.p (true = true)).a Cnd.t).a (((Cnd.p (true = true)).a Cnd.t).a (((Cnd.p (Wk (AV.v (Value.int IntKind.i64 (IntKind.i64.wrap (Int.ofNat n + Int.ofNat 0)))) (AV.v (Value.int IntKind.i64 (Int.ofNat n))))).a Cnd.t).a (((Cnd.p (n.ble len = true)).a ((Cnd.p (len.ble len = true)).a ((Cnd.p (len.ble len = true)).a Cnd.t))).a (((Cnd.p (true = true)).a Cnd.t).a (((Cnd.p (true = true)).a ((Cnd.p ([AV.v (Value.string m), AV.v (Value.string t), AV.slice 1102 0 (List.length L) 2 (Cp.lo (List.length L)), AV.slice 1103 0 0 1 (Cp.ex 0)] = [AV.v (Value.string m), AV.v (Value.string t), AV.slice 1102 0 (List.length L) 2 (Cp.lo (List.length L)), AV.slice 1103 0 0 1 (Cp.ex 0)])).a Cnd.t)).a (((Cnd.p (true = true)).a Cnd.t).a ((Cnd.p (true = true)).a ((Cnd.p ([AV.v (Value.string m), AV.v (Value.string t), AV.slice 1102 0 (List.length L) 2 (Cp.lo (List.length L)), AV.slice 1103 0 0 1 (Cp.ex 0)] = [AV.v (Value.string m), AV.v (Value.string t), AV.slice 1102 0 (List.length L) 2 (Cp.lo (List.length L)), AV.slice 1103 0 0 1 (Cp.ex 0)])).a Cnd.t))))))))))))))))))))))))))))))))))))))))) := by kernel_rfl
theorem oNx9Z_eq (W : World) (P : List UInt8) (s1 s2 l0 m t : ByteArray) (M : List ByteArray) (L : Hds) (off len n r sz : Nat) (F : HP) : wRun (cA P off len n l0 m t true ++ [(fLen, cLen0 m t)]) (hintL (hxA false false false false ++ hxB s1 s2 l0 M r false ++ hxC n 0 false false false ++ [(fClone, 1, 1, hv (.lit false)), (fClone, 3, 2, h0)])) [(fNext, 11, loopN fNext 11, lNlZ P off len M m t n r)] W fNext [.ptr 0 0] [(0, pO 1002 off len), (1002, rB1 P)] kNx F = VT.leaf (AV.tuple [AV.agg [AV.v (Value.string m), AV.v (Value.string t), AV.v (Value.slice none 0 0), AV.slice 1102 0 0 1 (Cp.ex 0)], AV.v (Value.bool true), AV.v (Value.int IntKind.i64 (Int.ofNat 0))]) [some (AO.cells [AV.slice 1002 (off + n * 1) (len - n) 1 (Cp.lo (len - n))] 122), some (AO.cells (AV.rens (sgN (nmNl ((1100, 1101), 0, 1002)) [] 0) (rowV encB P)) 11), some (AO.cells [AV.v (Value.string m), AV.v (Value.string t), AV.v (Value.slice none 0 0), AV.slice 1102 0 0 1 (Cp.ex 0)] 64), none, some (AO.cells (rep [AV.v (Value.int IntKind.u8 (Int.ofNat 0))] 0) 10), none, none] 1103 (((Cnd.p True).a ((Cnd.p (VW [AV.ptr 0 0] [AV.ptr 0 0])).a ((Cnd.p (OW (AO.cells [AV.slice 1002 off len 1 (Cp.lo len)] 122) (AO.cells [AV.slice 1002 off len 1 (Cp.lo len)] 122))).a ((Cnd.p (OW (AO.cells (rowV encB P) 11) (AO.cells (AV.rens (nm01 (0, 1002)) (rowV encB P)) 11))).a Cnd.t)))).a (((Cnd.p (Wk (AV.v (Value.bool (decide (Int.ofNat n < Int.ofNat 4)))) (AV.lit false))).a Cnd.t).a (((Cnd.p (Wk (AV.v (Value.bool (decide (Int.ofNat n > Int.ofNat 8192)))) (AV.lit false))).a Cnd.t).a (((Cnd.p (Wk (AV.v (Value.bool (decide (Int.ofNat n < Int.ofNat 4)))) (AV.lit false))).a Cnd.t).a (((Cnd.p (true = true)).a Cnd.t).a (((Cnd.p (true = true)).a ((Cnd.p (n.ble len = true)).a ((Cnd.p (len.ble len = true)).a Cnd.t))).a (((Cnd.p (off + n ≤ (AV.rens (sgN (nm01 (0, 1002)) [] 0) (rowV encB P)).length ∧ List.take n (List.drop off (AV.rens (sgN (nm01 (0, 1002)) [] 0) (rowV encB P))) = vmap (List.map (fun b => Value.int IntKind.u8 ↑b.toNat) s1.data.toList))).a Cnd.t).a (((Cnd.p (s1.size ≤ 9223372036854775807)).a ((Cnd.p (Wk (AV.v (Value.string (sufB s1 (ByteArray.mk (Array.mk [13, 10, 13, 10]))))) (AV.v (Value.string s2)))).a Cnd.t)).a (((Cnd.p (1 ≤ 2 ∧ s2.size < 4294967281)).a ((Cnd.p (OW (AO.cells (vmap (List.map Value.string (splB s2 (ByteArray.mk (Array.mk [13, 10]))))) 18) (AO.cells (rowV encS M) 18))).a ((Cnd.p (Wk (AV.slice 1101 0 (List.map Value.string (splB s2 (ByteArray.mk (Array.mk [13, 10])))).length 1 (Cp.lo (List.map Value.string (splB s2 (ByteArray.mk (Array.mk [13, 10])))).length)) (AV.slice 1101 0 (r + 1) 1 (Cp.lo (r + 1))))).a Cnd.t))).a (((Cnd.p (true = true)).a Cnd.t).a (((Cnd.p (Nat.blt 0 (rowV encS M).length = true)).a ((Cnd.p ((rowV encS M).getD 0 (AV.undef) = AV.v (Value.string ((rowV encS M).getD 0 (AV.undef)).strOf))).a ((Cnd.p (Wk (AV.v (Value.string ((rowV encS M).getD 0 (AV.undef)).strOf)) (AV.v (Value.string l0)))).a Cnd.t))).a (((Cnd.p True).a ((Cnd.p (VW [AV.v (Value.string l0), AV.ptr 1100 0] [AV.v (Value.string l0), AV.ptr 1100 0])).a ((Cnd.p (OW (AO.cells [AV.v (Value.string (ByteArray.mk (Array.mk []))), AV.v (Value.string (ByteArray.mk (Array.mk []))), AV.v (Value.slice none 0 0), AV.v (Value.slice none 0 0)] 64) (AO.cells [AV.v (Value.string nil0), AV.v (Value.string nil0), AV.v (Value.slice none 0 0), AV.v (Value.slice none 0 0)] 64))).a Cnd.t))).a (((Cnd.p (Wk (AV.v (Value.bool false)) (AV.lit false))).a Cnd.t).a (((Cnd.p (true = true)).a ((Cnd.p ((r + 1).ble (r + 1) = true)).a ((Cnd.p ((r + 1).ble (r + 1) = true)).a ((Cnd.p (Wk (AV.slice 1101 1 r 1 (Cp.lo r)) (AV.slice 1101 1 r 1 (Cp.lo r)))).a Cnd.t)))).a (((Cnd.p (Wk (AV.v (Value.int IntKind.i64 ↑r)) (AV.v (Value.int IntKind.i64 (Int.ofNat r))))).a Cnd.t).a ((Cnd.p ((fNext, 11, loopN fNext 11, lNlZ P off len M m t n r).snd.snd.fst = (fNext, 11, loopN fNext 11, lNlZ P off len M m t n r).snd.snd.fst)).a ((Cnd.p True).a ((Cnd.p (VW [AV.ptr 0 0, AV.undef, AV.ptr 1100 0, AV.v (Value.bool false), AV.v (Value.int IntKind.i64 (Int.ofNat 0)), AV.v (Value.int IntKind.i64 (Int.ofNat n)), AV.slice 1101 0 (r + 1) 1 (Cp.lo (r + 1)), AV.undef, AV.undef, AV.undef, AV.undef, AV.ptr 0 0, AV.v (Value.int IntKind.i64 (Int.ofNat n)), AV.lit false, AV.v (Value.int IntKind.i64 (Int.ofNat n)), AV.lit false, AV.lit false, AV.undef, AV.undef, AV.lit false, AV.lit false, AV.undef, AV.undef, AV.undef, AV.undef, AV.undef, AV.undef, AV.lit false, AV.v (Value.int IntKind.i64 (Int.ofNat n)), AV.lit false, AV.undef, AV.lit false, AV.v (Value.int IntKind.i64 (Int.ofNat n)), AV.lit false, AV.lit false, AV.undef, AV.undef, AV.lit false, AV.undef, AV.ptr 0 0, AV.ptr 0 0, AV.ptr 0 0, AV.slice 1002 off len 1 (Cp.lo len), AV.v (Value.int IntKind.i64 (Int.ofNat n)), AV.slice 1002 off n 1 (Cp.lo len), AV.v (Value.string s1), AV.v (Value.string s2), AV.slice 1101 0 (r + 1) 1 (Cp.lo (r + 1)), AV.slice 1101 0 (r + 1) 1 (Cp.lo (r + 1)), AV.ptr 1101 0, AV.v (Value.string l0), AV.v (Value.bool true), AV.lit false, AV.undef, AV.slice 1101 0 (r + 1) 1 (Cp.lo (r + 1)), AV.slice 1101 1 r 1 (Cp.lo r), AV.v (Value.int IntKind.i64 (Int.ofNat r)), AV.v (Value.int IntKind.i64 (Int.ofNat 0)), AV.undef, AV.undef, AV.undef, AV.undef, AV.undef, AV.undef, AV.undef, AV.undef, AV.undef, AV.undef, AV.undef, AV.undef, AV.undef, AV.undef, AV.undef, AV.undef, AV.undef, AV.undef, AV.undef, AV.undef, AV.undef, AV.undef, AV.undef, AV.undef, AV.undef, AV.undef, AV.undef, AV.undef, AV.undef, AV.undef, AV.undef, AV.undef, AV.undef, AV.undef, AV.undef, AV.undef, AV.undef, AV.undef, AV.undef, AV.undef, AV.undef, AV.undef, AV.undef, AV.undef, AV.undef, AV.undef, AV.undef, AV.undef, AV.undef, AV.undef, AV.undef, AV.undef, AV.undef, AV.undef, AV.undef] [AV.ptr 0 0, AV.any, AV.ptr 1100 0, AV.any, AV.any, AV.v (Value.int IntKind.i64 (Int.ofNat n)), AV.any, AV.any, AV.any, AV.any, AV.any, AV.any, AV.any, AV.any, AV.any, AV.any, AV.any, AV.any, AV.any, AV.any, AV.any, AV.any, AV.any, AV.any, AV.any, AV.any, AV.any, AV.any, AV.any, AV.any, AV.any, AV.any, AV.any, AV.any, AV.any, AV.any, AV.any, AV.any, AV.any, AV.any, AV.any, AV.any, AV.any, AV.any, AV.any, AV.any, AV.any, AV.any, AV.any, AV.any, AV.any, AV.any, AV.any, AV.any, AV.any, AV.slice 1101 1 r 1 (Cp.lo r), AV.v (Value.int IntKind.i64 (Int.ofNat r)), AV.v (Value.int IntKind.i64 (Int.ofNat 0)), AV.any, AV.any, AV.any, AV.any, AV.any, AV.any, AV.any, AV.any, AV.any, AV.any, AV.any, AV.any, AV.any, AV.any, AV.any, AV.any, AV.any, AV.any, AV.any, AV.any, AV.any, AV.any, AV.any, AV.any, AV.any, AV.any, AV.any, AV.any, AV.any, AV.any, AV.any, AV.any, AV.any, AV.any, AV.any, AV.any, AV.any, AV.any, AV.any, AV.any, AV.any, AV.any, AV.any, AV.any, AV.any, AV.any, AV.any, AV.any, AV.any, AV.any, AV.any, AV.any, AV.any, AV.any, AV.any])).a ((Cnd.p (OW (AO.cells [AV.v (Value.string m), AV.v (Value.string t), AV.v (Value.slice none 0 0), AV.v (Value.slice none 0 0)] 64) (AO.cells [AV.v (Value.string m), AV.v (Value.string t), AV.v (Value.slice none 0 0), AV.v (Value.slice none 0 0)] 64))).a ((Cnd.p (OW (AO.cells (rowV encS M) 18) (AO.cells (AV.rens (nmNl ((1100, 1101), 0, 1002)) (rowV encS M)) 18))).a ((Cnd.p (OW (AO.cells [AV.slice 1002 off len 1 (Cp.lo len)] 122) (AO.cells [AV.slice 1002 off len 1 (Cp.lo len)] 122))).a ((Cnd.p (OW (AO.cells (AV.rens (sgN (nm01 (0, 1002)) [] 0) (rowV encB P)) 11) (AO.cells (AV.rens (nmNl ((1100, 1101), 0, 1002)) (rowV encB P)) 11))).a (((Cnd.p (true = true)).a ((Cnd.p ([AV.v (Value.string m), AV.v (Value.string t), AV.v (Value.slice none 0 0), AV.v (Value.slice none 0 0)] = [AV.v (Value.string m), AV.v (Value.string t), AV.v (Value.slice none 0 0), AV.v (Value.slice none 0 0)])).a Cnd.t)).a (((Cnd.p True).a ((Cnd.p (VW [AV.agg [AV.v (Value.string m), AV.v (Value.string t), AV.v (Value.slice none 0 0), AV.v (Value.slice none 0 0)]] [AV.agg [AV.v (Value.string m), AV.v (Value.string t), AV.v (Value.slice none 0 0), AV.v (Value.slice none 0 0)]])).a Cnd.t)).a (((Cnd.p (Wk (AV.v (Value.bool false)) (AV.lit false))).a Cnd.t).a (((Cnd.p (Wk (AV.v (Value.bool false)) (AV.lit false))).a Cnd.t).a (((Cnd.p (true = true)).a Cnd.t).a (((Cnd.p (Wk (AV.v (Value.bool (decide (IntKind.i64.wrap (↑len - Int.ofNat n) < Int.ofNat 0)))) (AV.lit false))).a Cnd.t).a (((Cnd.p (true = true)).a Cnd.t).a (((Cnd.p (Wk (AV.v (Value.int IntKind.i64 (IntKind.i64.wrap (Int.ofNat n + Int.ofNat 0)))) (AV.v (Value.int IntKind.i64 (Int.ofNat n))))).a Cnd.t).a (((Cnd.p (n.ble n = true)).a ((Cnd.p (n.ble len = true)).a ((Cnd.p (len.ble len = true)).a Cnd.t))).a ((((Cnd.p (Wk (AV.v (Value.bool false)) (AV.lit false))).a Cnd.t).a (((Cnd.p (n - n = 0)).a Cnd.t).a Cnd.t)).a (((Cnd.p (true = true)).a Cnd.t).a (((Cnd.p (true = true)).a Cnd.t).a (((Cnd.p (Wk (AV.v (Value.int IntKind.i64 (IntKind.i64.wrap (Int.ofNat n + Int.ofNat 0)))) (AV.v (Value.int IntKind.i64 (Int.ofNat n))))).a Cnd.t).a (((Cnd.p (n.ble len = true)).a ((Cnd.p (len.ble len = true)).a ((Cnd.p (len.ble len = true)).a Cnd.t))).a (((Cnd.p (true = true)).a Cnd.t).a (((Cnd.p (true = true)).a ((Cnd.p ([AV.v (Value.string m), AV.v (Value.string t), AV.v (Value.slice none 0 0), AV.slice 1102 0 0 1 (Cp.ex 0)] = [AV.v (Value.string m), AV.v (Value.string t), AV.v (Value.slice none 0 0), AV.slice 1102 0 0 1 (Cp.ex 0)])).a Cnd.t)).a (((Cnd.p (true = true)).a Cnd.t).a ((Cnd.p (true = true)).a ((Cnd.p ([AV.v (Value.string m), AV.v (Value.string t), AV.v (Value.slice none 0 0), AV.slice 1102 0 0 1 (Cp.ex 0)] = [AV.v (Value.string m), AV.v (Value.string t), AV.v (Value.slice none 0 0), AV.slice 1102 0 0 1 (Cp.ex 0)])).a Cnd.t))))))))))))))))))))))))))))))))))))))))) := by kernel_rfl
end
end Go.Proofs.YtpijbbobejeemaaGreatDoor.Htp

/- Http: line, header, length. -/
set_option linter.unusedVariables false
set_option linter.unusedSimpArgs false
set_option maxRecDepth 100000
namespace Go.Proofs.YtpijbbobejeemaaGreatDoor.Htp
open Go Go.RowKit Go.Proofs.YtpijbbobejeemaaGreatDoor.Eng Go.Proofs.YtpijbbobejeemaaGreatDoor.Kit
theorem tl_nil (a : ByteArray) : (a.toList == []) = decide (a.size = 0) := by
  have h : ([] : List UInt8) = nil0.toList := by kernel_rfl
  rw [h, ba_eq]
  congr 1
  refine propext ⟨fun h => by rw [h]; rfl, fun h => ByteArray.ext (Array.eq_empty_of_size_eq_zero h)⟩
theorem tl_ver (c : ByteArray) : (!c.toList == [(ByteArray.mk (Array.mk [72, 84, 84, 80, 47, 49, 46, 49])).get! 0, (ByteArray.mk (Array.mk [72, 84, 84, 80, 47, 49, 46, 49])).get! 1, (ByteArray.mk (Array.mk [72, 84, 84, 80, 47, 49, 46, 49])).get! 2, (ByteArray.mk (Array.mk [72, 84, 84, 80, 47, 49, 46, 49])).get! 3, (ByteArray.mk (Array.mk [72, 84, 84, 80, 47, 49, 46, 49])).get! 4, (ByteArray.mk (Array.mk [72, 84, 84, 80, 47, 49, 46, 49])).get! 5, (ByteArray.mk (Array.mk [72, 84, 84, 80, 47, 49, 46, 49])).get! 6, (ByteArray.mk (Array.mk [72, 84, 84, 80, 47, 49, 46, 49])).get! 7]) = !decide (c = verB) := by
  have h : verB.toList = [(ByteArray.mk (Array.mk [72, 84, 84, 80, 47, 49, 46, 49])).get! 0, (ByteArray.mk (Array.mk [72, 84, 84, 80, 47, 49, 46, 49])).get! 1, (ByteArray.mk (Array.mk [72, 84, 84, 80, 47, 49, 46, 49])).get! 2, (ByteArray.mk (Array.mk [72, 84, 84, 80, 47, 49, 46, 49])).get! 3, (ByteArray.mk (Array.mk [72, 84, 84, 80, 47, 49, 46, 49])).get! 4, (ByteArray.mk (Array.mk [72, 84, 84, 80, 47, 49, 46, 49])).get! 5, (ByteArray.mk (Array.mk [72, 84, 84, 80, 47, 49, 46, 49])).get! 6, (ByteArray.mk (Array.mk [72, 84, 84, 80, 47, 49, 46, 49])).get! 7] := by kernel_rfl
  rw [← h, ba_eq]
theorem tl_te (c : ByteArray) : (c.toList == [(ByteArray.mk (Array.mk [116, 114, 97, 110, 115, 102, 101, 114, 45, 101, 110, 99, 111, 100, 105, 110, 103])).get! 0, (ByteArray.mk (Array.mk [116, 114, 97, 110, 115, 102, 101, 114, 45, 101, 110, 99, 111, 100, 105, 110, 103])).get! 1, (ByteArray.mk (Array.mk [116, 114, 97, 110, 115, 102, 101, 114, 45, 101, 110, 99, 111, 100, 105, 110, 103])).get! 2, (ByteArray.mk (Array.mk [116, 114, 97, 110, 115, 102, 101, 114, 45, 101, 110, 99, 111, 100, 105, 110, 103])).get! 3, (ByteArray.mk (Array.mk [116, 114, 97, 110, 115, 102, 101, 114, 45, 101, 110, 99, 111, 100, 105, 110, 103])).get! 4, (ByteArray.mk (Array.mk [116, 114, 97, 110, 115, 102, 101, 114, 45, 101, 110, 99, 111, 100, 105, 110, 103])).get! 5, (ByteArray.mk (Array.mk [116, 114, 97, 110, 115, 102, 101, 114, 45, 101, 110, 99, 111, 100, 105, 110, 103])).get! 6, (ByteArray.mk (Array.mk [116, 114, 97, 110, 115, 102, 101, 114, 45, 101, 110, 99, 111, 100, 105, 110, 103])).get! 7, (ByteArray.mk (Array.mk [116, 114, 97, 110, 115, 102, 101, 114, 45, 101, 110, 99, 111, 100, 105, 110, 103])).get! 8, (ByteArray.mk (Array.mk [116, 114, 97, 110, 115, 102, 101, 114, 45, 101, 110, 99, 111, 100, 105, 110, 103])).get! 9, (ByteArray.mk (Array.mk [116, 114, 97, 110, 115, 102, 101, 114, 45, 101, 110, 99, 111, 100, 105, 110, 103])).get! 10, (ByteArray.mk (Array.mk [116, 114, 97, 110, 115, 102, 101, 114, 45, 101, 110, 99, 111, 100, 105, 110, 103])).get! 11, (ByteArray.mk (Array.mk [116, 114, 97, 110, 115, 102, 101, 114, 45, 101, 110, 99, 111, 100, 105, 110, 103])).get! 12, (ByteArray.mk (Array.mk [116, 114, 97, 110, 115, 102, 101, 114, 45, 101, 110, 99, 111, 100, 105, 110, 103])).get! 13, (ByteArray.mk (Array.mk [116, 114, 97, 110, 115, 102, 101, 114, 45, 101, 110, 99, 111, 100, 105, 110, 103])).get! 14, (ByteArray.mk (Array.mk [116, 114, 97, 110, 115, 102, 101, 114, 45, 101, 110, 99, 111, 100, 105, 110, 103])).get! 15, (ByteArray.mk (Array.mk [116, 114, 97, 110, 115, 102, 101, 114, 45, 101, 110, 99, 111, 100, 105, 110, 103])).get! 16]) = decide (c = teB) := by
  have h : teB.toList = [(ByteArray.mk (Array.mk [116, 114, 97, 110, 115, 102, 101, 114, 45, 101, 110, 99, 111, 100, 105, 110, 103])).get! 0, (ByteArray.mk (Array.mk [116, 114, 97, 110, 115, 102, 101, 114, 45, 101, 110, 99, 111, 100, 105, 110, 103])).get! 1, (ByteArray.mk (Array.mk [116, 114, 97, 110, 115, 102, 101, 114, 45, 101, 110, 99, 111, 100, 105, 110, 103])).get! 2, (ByteArray.mk (Array.mk [116, 114, 97, 110, 115, 102, 101, 114, 45, 101, 110, 99, 111, 100, 105, 110, 103])).get! 3, (ByteArray.mk (Array.mk [116, 114, 97, 110, 115, 102, 101, 114, 45, 101, 110, 99, 111, 100, 105, 110, 103])).get! 4, (ByteArray.mk (Array.mk [116, 114, 97, 110, 115, 102, 101, 114, 45, 101, 110, 99, 111, 100, 105, 110, 103])).get! 5, (ByteArray.mk (Array.mk [116, 114, 97, 110, 115, 102, 101, 114, 45, 101, 110, 99, 111, 100, 105, 110, 103])).get! 6, (ByteArray.mk (Array.mk [116, 114, 97, 110, 115, 102, 101, 114, 45, 101, 110, 99, 111, 100, 105, 110, 103])).get! 7, (ByteArray.mk (Array.mk [116, 114, 97, 110, 115, 102, 101, 114, 45, 101, 110, 99, 111, 100, 105, 110, 103])).get! 8, (ByteArray.mk (Array.mk [116, 114, 97, 110, 115, 102, 101, 114, 45, 101, 110, 99, 111, 100, 105, 110, 103])).get! 9, (ByteArray.mk (Array.mk [116, 114, 97, 110, 115, 102, 101, 114, 45, 101, 110, 99, 111, 100, 105, 110, 103])).get! 10, (ByteArray.mk (Array.mk [116, 114, 97, 110, 115, 102, 101, 114, 45, 101, 110, 99, 111, 100, 105, 110, 103])).get! 11, (ByteArray.mk (Array.mk [116, 114, 97, 110, 115, 102, 101, 114, 45, 101, 110, 99, 111, 100, 105, 110, 103])).get! 12, (ByteArray.mk (Array.mk [116, 114, 97, 110, 115, 102, 101, 114, 45, 101, 110, 99, 111, 100, 105, 110, 103])).get! 13, (ByteArray.mk (Array.mk [116, 114, 97, 110, 115, 102, 101, 114, 45, 101, 110, 99, 111, 100, 105, 110, 103])).get! 14, (ByteArray.mk (Array.mk [116, 114, 97, 110, 115, 102, 101, 114, 45, 101, 110, 99, 111, 100, 105, 110, 103])).get! 15, (ByteArray.mk (Array.mk [116, 114, 97, 110, 115, 102, 101, 114, 45, 101, 110, 99, 111, 100, 105, 110, 103])).get! 16] := by kernel_rfl
  rw [← h, ba_eq]
def lnO (r : Option (ByteArray × ByteArray)) : AO := match r with
  | some p => rqO p.1 p.2 nilP nilB
  | none => rqO nil0 nil0 nilP nilB
theorem Line_tri {W : World} (hW : LW W) (s : ByteArray) (hs : s.size ≤ 8192) : Tri Tryz.prog W fLine [sv s, .ptr 0 0] [(0, rqO nil0 nil0 nilP nilB)] (bv (lnB s).isSome) [(0, lnO (lnB s))] := by
  have hq : s.size < 4294967281 := by omega
  have hcon : ∀ F, OldOK W F → ∀ x ∈ cnLn, C1OK Tryz.prog F x.1 x.2 := fun F hF => con_cons (cSplt_ok hW hF) (con_cons (cAll_ok hF) (one_c (cHPre_ok hF)))
  by_cases h3 : ∃ a b c, splB s spB = [a, b, c]
  · obtain ⟨a, b, c, h⟩ := h3
    have hl : lnB s = lnW a b c := by unfold lnB; rw [h]
    have h : splB s (ByteArray.mk (Array.mk [32])) = [a, b, c] := h
    have ha : a.size ≤ 4000000 := Nat.le_trans (splB_size (s := s) (t := ByteArray.mk (Array.mk [32])) (by rw [h]; simp)) (by omega)
    have hb : b.size ≤ 4000000 := Nat.le_trans (splB_size (s := s) (t := ByteArray.mk (Array.mk [32])) (by rw [h]; simp)) (by omega)
    have row : OW (AO.cells (vmap (List.map Value.string (splB s (ByteArray.mk (Array.mk [32]))))) tStr) (AO.cells [sv a, sv b, sv c] tStr) := by rw [h]; exact OW.refl _
    have slw : Wk (AV.slice 1100 0 (List.map Value.string (splB s (ByteArray.mk (Array.mk [32])))).length 1 (Cp.lo (List.map Value.string (splB s (ByteArray.mk (Array.mk [32])))).length)) (AV.slice 1100 0 3 1 (Cp.lo 3)) := by rw [h]; exact Wk.refl _
    rw [hl]
    unfold lnW
    by_cases g1 : a.size = 0
    · rw [if_pos g1]
      show Tri _ _ _ _ _ (bv false) [(0, rqO nil0 nil0 nilP nilB)]
      refine tri_run (con := cnLn) (hints := hLn s a b c [a, b, c] 3 false true false false false false false true) (lc := []) [0] rfl hcon (fun F hF => noL) fun F => ?_
      refine cast (congrArg (VAll _) (oLn2_eq W s a b c F).symm) ⟨⟨?_, (fit_mk (vs' := [bv false]) (H' := [(0, rqO nil0 nil0 nilP nilB)]) [] rfl rfl (VW.refl _) ⟨⟨_, rfl, OW.refl _⟩, trivial⟩).fits rfl⟩⟩
      simp only [Cnd.holds, hq, Nat.blt_eq, true_and, and_true]
      and_intros
      all_goals first
        | exact row
        | exact slw
        | exact wk_litE (by rw [tl_nil a]; exact decide_eq_true g1)
        | exact Nat.le_refl _
        | exact hq
        | exact ha
        | exact hb
        | (unfold Five; decide)
        | (with_reducible exact trivial)
        | (with_reducible exact rfl)
        | (with_reducible exact Wk.refl _)
        | (with_reducible exact VW.refl _)
        | (with_reducible exact OW.refl _)
        | (with_reducible exact wk_lit _)
        | (with_reducible assumption)
        | exact rfl
        | exact Wk.refl _
        | exact VW.refl _
        | exact OW.refl _
        | ((repeat (first | exact VW.nil | refine VW.cons (Wk.refl _) ?_ | refine VW.cons (Wk.any _) ?_ | refine VW.cons (wk_cap (Nat.le_refl _)) ?_)); done)
    rw [if_neg g1]
    by_cases g2 : 20 < a.size
    · rw [if_pos g2]
      show Tri _ _ _ _ _ (bv false) [(0, rqO nil0 nil0 nilP nilB)]
      refine tri_run (con := cnLn) (hints := hLn s a b c [a, b, c] 3 false false true false false false false true) (lc := []) [0] rfl hcon (fun F hF => noL) fun F => ?_
      refine cast (congrArg (VAll _) (oLn3_eq W s a b c F).symm) ⟨⟨?_, (fit_mk (vs' := [bv false]) (H' := [(0, rqO nil0 nil0 nilP nilB)]) [] rfl rfl (VW.refl _) ⟨⟨_, rfl, OW.refl _⟩, trivial⟩).fits rfl⟩⟩
      simp only [Cnd.holds, hq, Nat.blt_eq, true_and, and_true]
      and_intros
      all_goals first
        | exact row
        | exact slw
        | exact wk_litE (by rw [tl_nil a]; exact decide_eq_false g1)
        | exact wk_litE (decide_eq_true (by simp only [Int.ofNat_eq_natCast, gt_iff_lt]; omega))
        | exact Nat.le_refl _
        | exact hq
        | exact ha
        | exact hb
        | (unfold Five; decide)
        | (with_reducible exact trivial)
        | (with_reducible exact rfl)
        | (with_reducible exact Wk.refl _)
        | (with_reducible exact VW.refl _)
        | (with_reducible exact OW.refl _)
        | (with_reducible exact wk_lit _)
        | (with_reducible assumption)
        | exact rfl
        | exact Wk.refl _
        | exact VW.refl _
        | exact OW.refl _
        | ((repeat (first | exact VW.nil | refine VW.cons (Wk.refl _) ?_ | refine VW.cons (Wk.any _) ?_ | refine VW.cons (wk_cap (Nat.le_refl _)) ?_)); done)
    rw [if_neg g2]
    by_cases g3 : qIn fQl a = false
    · rw [if_pos g3]
      show Tri _ _ _ _ _ (bv false) [(0, rqO nil0 nil0 nilP nilB)]
      refine tri_run (con := cnLn) (hints := hLn s a b c [a, b, c] 3 false false false true false false false true) (lc := []) [0] rfl hcon (fun F hF => noL) fun F => ?_
      refine cast (congrArg (VAll _) (oLn4_eq W s a b c F).symm) ⟨⟨?_, (fit_mk (vs' := [bv false]) (H' := [(0, rqO nil0 nil0 nilP nilB)]) [] rfl rfl (VW.refl _) ⟨⟨_, rfl, OW.refl _⟩, trivial⟩).fits rfl⟩⟩
      simp only [Cnd.holds, hq, Nat.blt_eq, true_and, and_true]
      and_intros
      all_goals first
        | exact row
        | exact slw
        | exact wk_litE (by rw [tl_nil a]; exact decide_eq_false g1)
        | exact wk_litE (decide_eq_false (by simp only [Int.ofNat_eq_natCast, gt_iff_lt]; omega))
        | exact wk_litE (by rw [g3]; rfl)
        | exact Nat.le_refl _
        | exact hq
        | exact ha
        | exact hb
        | (unfold Five; decide)
        | (with_reducible exact trivial)
        | (with_reducible exact rfl)
        | (with_reducible exact Wk.refl _)
        | (with_reducible exact VW.refl _)
        | (with_reducible exact OW.refl _)
        | (with_reducible exact wk_lit _)
        | (with_reducible assumption)
        | exact rfl
        | exact Wk.refl _
        | exact VW.refl _
        | exact OW.refl _
        | ((repeat (first | exact VW.nil | refine VW.cons (Wk.refl _) ?_ | refine VW.cons (Wk.any _) ?_ | refine VW.cons (wk_cap (Nat.le_refl _)) ?_)); done)
    rw [if_neg g3]
    have g3 := eq_true_of_ne_false g3
    by_cases g4 : hpreB b slB = false
    · rw [if_pos g4]
      show Tri _ _ _ _ _ (bv false) [(0, rqO nil0 nil0 nilP nilB)]
      refine tri_run (con := cnLn) (hints := hLn s a b c [a, b, c] 3 false false false false true false false true) (lc := []) [0] rfl hcon (fun F hF => noL) fun F => ?_
      refine cast (congrArg (VAll _) (oLn5_eq W s a b c F).symm) ⟨⟨?_, (fit_mk (vs' := [bv false]) (H' := [(0, rqO nil0 nil0 nilP nilB)]) [] rfl rfl (VW.refl _) ⟨⟨_, rfl, OW.refl _⟩, trivial⟩).fits rfl⟩⟩
      simp only [Cnd.holds, hq, Nat.blt_eq, true_and, and_true]
      and_intros
      all_goals first
        | exact row
        | exact slw
        | exact wk_litE (by rw [tl_nil a]; exact decide_eq_false g1)
        | exact wk_litE (decide_eq_false (by simp only [Int.ofNat_eq_natCast, gt_iff_lt]; omega))
        | exact wk_litE (by rw [g3]; rfl)
        | exact wk_litE (congrArg (!·) g4)
        | exact Nat.le_refl _
        | exact hq
        | exact ha
        | exact hb
        | (unfold Five; decide)
        | (with_reducible exact trivial)
        | (with_reducible exact rfl)
        | (with_reducible exact Wk.refl _)
        | (with_reducible exact VW.refl _)
        | (with_reducible exact OW.refl _)
        | (with_reducible exact wk_lit _)
        | (with_reducible assumption)
        | exact rfl
        | exact Wk.refl _
        | exact VW.refl _
        | exact OW.refl _
        | ((repeat (first | exact VW.nil | refine VW.cons (Wk.refl _) ?_ | refine VW.cons (Wk.any _) ?_ | refine VW.cons (wk_cap (Nat.le_refl _)) ?_)); done)
    rw [if_neg g4]
    have g4 := eq_true_of_ne_false g4
    by_cases g5 : qIn fQs b = false
    · rw [if_pos g5]
      show Tri _ _ _ _ _ (bv false) [(0, rqO nil0 nil0 nilP nilB)]
      refine tri_run (con := cnLn) (hints := hLn s a b c [a, b, c] 3 false false false false false true false true) (lc := []) [0] rfl hcon (fun F hF => noL) fun F => ?_
      refine cast (congrArg (VAll _) (oLn6_eq W s a b c F).symm) ⟨⟨?_, (fit_mk (vs' := [bv false]) (H' := [(0, rqO nil0 nil0 nilP nilB)]) [] rfl rfl (VW.refl _) ⟨⟨_, rfl, OW.refl _⟩, trivial⟩).fits rfl⟩⟩
      simp only [Cnd.holds, hq, Nat.blt_eq, true_and, and_true]
      and_intros
      all_goals first
        | exact row
        | exact slw
        | exact wk_litE (by rw [tl_nil a]; exact decide_eq_false g1)
        | exact wk_litE (decide_eq_false (by simp only [Int.ofNat_eq_natCast, gt_iff_lt]; omega))
        | exact wk_litE (by rw [g3]; rfl)
        | exact wk_litE (congrArg (!·) g4)
        | exact wk_litE (by rw [g5]; rfl)
        | exact Nat.le_refl _
        | exact hq
        | exact ha
        | exact hb
        | (unfold Five; decide)
        | (with_reducible exact trivial)
        | (with_reducible exact rfl)
        | (with_reducible exact Wk.refl _)
        | (with_reducible exact VW.refl _)
        | (with_reducible exact OW.refl _)
        | (with_reducible exact wk_lit _)
        | (with_reducible assumption)
        | exact rfl
        | exact Wk.refl _
        | exact VW.refl _
        | exact OW.refl _
        | ((repeat (first | exact VW.nil | refine VW.cons (Wk.refl _) ?_ | refine VW.cons (Wk.any _) ?_ | refine VW.cons (wk_cap (Nat.le_refl _)) ?_)); done)
    rw [if_neg g5]
    have g5 := eq_true_of_ne_false g5
    by_cases g6 : c = verB
    · rw [if_pos g6]
      show Tri _ _ _ _ _ (bv true) [(0, rqO a b nilP nilB)]
      refine tri_run (con := cnLn) (hints := hLn s a b c [a, b, c] 3 false false false false false false false false) (lc := []) [0] rfl hcon (fun F hF => noL) fun F => ?_
      refine cast (congrArg (VAll _) (oLn8_eq W s a b c F).symm) ⟨⟨?_, (fit_mk (vs' := [bv true]) (H' := [(0, rqO a b nilP nilB)]) [] rfl rfl (VW.refl _) ⟨⟨_, rfl, OW.refl _⟩, trivial⟩).fits rfl⟩⟩
      simp only [Cnd.holds, hq, Nat.blt_eq, true_and, and_true]
      and_intros
      all_goals first
        | exact row
        | exact slw
        | exact wk_litE (by rw [tl_nil a]; exact decide_eq_false g1)
        | exact wk_litE (decide_eq_false (by simp only [Int.ofNat_eq_natCast, gt_iff_lt]; omega))
        | exact wk_litE (by rw [g3]; rfl)
        | exact wk_litE (congrArg (!·) g4)
        | exact wk_litE (by rw [g5]; rfl)
        | exact wk_litE (by rw [tl_ver c, decide_eq_true g6]; rfl)
        | exact Nat.le_refl _
        | exact hq
        | exact ha
        | exact hb
        | (unfold Five; decide)
        | (with_reducible exact trivial)
        | (with_reducible exact rfl)
        | (with_reducible exact Wk.refl _)
        | (with_reducible exact VW.refl _)
        | (with_reducible exact OW.refl _)
        | (with_reducible exact wk_lit _)
        | (with_reducible assumption)
        | exact rfl
        | exact Wk.refl _
        | exact VW.refl _
        | exact OW.refl _
        | ((repeat (first | exact VW.nil | refine VW.cons (Wk.refl _) ?_ | refine VW.cons (Wk.any _) ?_ | refine VW.cons (wk_cap (Nat.le_refl _)) ?_)); done)
    · rw [if_neg g6]
      show Tri _ _ _ _ _ (bv false) [(0, rqO nil0 nil0 nilP nilB)]
      refine tri_run (con := cnLn) (hints := hLn s a b c [a, b, c] 3 false false false false false false true true) (lc := []) [0] rfl hcon (fun F hF => noL) fun F => ?_
      refine cast (congrArg (VAll _) (oLn7_eq W s a b c F).symm) ⟨⟨?_, (fit_mk (vs' := [bv false]) (H' := [(0, rqO nil0 nil0 nilP nilB)]) [] rfl rfl (VW.refl _) ⟨⟨_, rfl, OW.refl _⟩, trivial⟩).fits rfl⟩⟩
      simp only [Cnd.holds, hq, Nat.blt_eq, true_and, and_true]
      and_intros
      all_goals first
        | exact row
        | exact slw
        | exact wk_litE (by rw [tl_nil a]; exact decide_eq_false g1)
        | exact wk_litE (decide_eq_false (by simp only [Int.ofNat_eq_natCast, gt_iff_lt]; omega))
        | exact wk_litE (by rw [g3]; rfl)
        | exact wk_litE (congrArg (!·) g4)
        | exact wk_litE (by rw [g5]; rfl)
        | exact wk_litE (by rw [tl_ver c, decide_eq_false g6]; rfl)
        | exact Nat.le_refl _
        | exact hq
        | exact ha
        | exact hb
        | (unfold Five; decide)
        | (with_reducible exact trivial)
        | (with_reducible exact rfl)
        | (with_reducible exact Wk.refl _)
        | (with_reducible exact VW.refl _)
        | (with_reducible exact OW.refl _)
        | (with_reducible exact wk_lit _)
        | (with_reducible assumption)
        | exact rfl
        | exact Wk.refl _
        | exact VW.refl _
        | exact OW.refl _
        | ((repeat (first | exact VW.nil | refine VW.cons (Wk.refl _) ?_ | refine VW.cons (Wk.any _) ?_ | refine VW.cons (wk_cap (Nat.le_refl _)) ?_)); done)
  · have hl : lnB s = none := by
      unfold lnB
      split
      · rename_i a b c h; exact absurd ⟨a, b, c, h⟩ h3
      · rfl
    have hn : (splB s spB).length ≠ 3 := fun e => h3 (by
      match h : splB s spB with
      | [] => rw [h] at e; cases e
      | [_] => rw [h] at e; cases e
      | [_, _] => rw [h] at e; cases e
      | [a, b, c] => exact ⟨a, b, c, rfl⟩
      | _ :: _ :: _ :: _ :: _ => rw [h] at e; simp at e)
    rw [hl]
    show Tri _ _ _ _ _ (bv false) [(0, rqO nil0 nil0 nilP nilB)]
    have row : OW (AO.cells (vmap (List.map Value.string (splB s (ByteArray.mk (Array.mk [32]))))) tStr) (AO.cells (rowV encS (splB s spB)) tStr) := ow_cells (rS_map _).symm
    have slw : Wk (AV.slice 1100 0 (List.map Value.string (splB s (ByteArray.mk (Array.mk [32])))).length 1 (Cp.lo (List.map Value.string (splB s (ByteArray.mk (Array.mk [32])))).length)) (AV.slice 1100 0 (splB s spB).length 1 (Cp.lo (splB s spB).length)) := by rw [List.length_map]; exact Wk.refl _
    have ha : (0 : Nat) ≤ 0 := Nat.le_refl _
    have hb : (0 : Nat) ≤ 0 := Nat.le_refl _
    refine tri_run (con := cnLn) (hints := hLn s s s s (splB s spB) (splB s spB).length true false false false false false false true) (lc := []) [0] rfl hcon (fun F hF => noL) fun F => ?_
    refine cast (congrArg (VAll _) (oLn1_eq W s (splB s spB) (splB s spB).length F).symm) ⟨⟨?_, (fit_mk (vs' := [bv false]) (H' := [(0, rqO nil0 nil0 nilP nilB)]) [] rfl rfl (VW.refl _) ⟨⟨_, rfl, OW.refl _⟩, trivial⟩).fits rfl⟩⟩
    simp only [Cnd.holds, hq, Nat.blt_eq, true_and, and_true]
    and_intros
    all_goals first
      | exact row
      | exact slw
      | exact wk_litE (by rw [bne_iff_ne]; simp only [Int.ofNat_eq_natCast]; omega)
      | exact Nat.le_refl _
      | exact hq
      | exact ha
      | exact hb
      | (unfold Five; decide)
      | (with_reducible exact trivial)
      | (with_reducible exact rfl)
      | (with_reducible exact Wk.refl _)
      | (with_reducible exact VW.refl _)
      | (with_reducible exact OW.refl _)
      | (with_reducible exact wk_lit _)
      | (with_reducible assumption)
      | exact rfl
      | exact Wk.refl _
      | exact VW.refl _
      | exact OW.refl _
      | ((repeat (first | exact VW.nil | refine VW.cons (Wk.refl _) ?_ | refine VW.cons (Wk.any _) ?_ | refine VW.cons (wk_cap (Nat.le_refl _)) ?_)); done)
end Go.Proofs.YtpijbbobejeemaaGreatDoor.Htp

/- Http: header, length. -/
set_option linter.unusedVariables false
set_option linter.unusedSimpArgs false
set_option maxRecDepth 100000
namespace Go.Proofs.YtpijbbobejeemaaGreatDoor.Htp
open Go Go.RowKit Go.Proofs.YtpijbbobejeemaaGreatDoor.Eng Go.Proofs.YtpijbbobejeemaaGreatDoor.Kit
theorem gGr_ro : ∀ args, RO (gGr args) := by
  intro args
  unfold gGr
  split
  · exact RO.ret _
  · exact RO.fail _
theorem cGet0_ok (F : HP) (m t name : ByteArray) : C1OK Tryz.prog F fGet (cGet0 m t name) :=
  mkC_ok (OldOK.nothing F) (fun _ => .tuple [sv nil0, bv false]) gG0_ro (fun _ => rfl) (fun _ _ => Get0_tri m t name) fun _ => ⟨rfl, rfl, ⟨⟨trivial, trivial, trivial, trivial, trivial⟩, trivial, trivial⟩, all_nil, ⟨⟨trivial, trivial, trivial⟩, trivial⟩, all_nil⟩
theorem cGet_ok (F : HP) (L : Hds) (m t name v : ByteArray) (ok : Bool) (hL : L.length ≤ 4000000) (h : gotV (getP L name) = .tuple [sv v, bv ok]) : C1OK Tryz.prog F fGet (cGet L m t name v ok) :=
  mkC_ok (OldOK.nothing F) (fun _ => .tuple [sv v, bv ok]) gGr_ro (fun _ => rfl) (fun _ _ => by rw [← h]; exact Get_tri L m t name hL) fun _ => ⟨rfl, rfl, ⟨⟨trivial, trivial, rfl, trivial, trivial⟩, trivial, trivial⟩, all_cons (rP_cl _ _) all_nil, ⟨⟨trivial, trivial, trivial⟩, trivial⟩, all_cons (rP_cl _ _) all_nil⟩
theorem ws_ascii : asciiB (ByteArray.mk (Array.mk [32, 9])) := by
  intro j b h
  have hm : b ∈ [(32 : UInt8), 9] := List.mem_of_getElem? h
  rcases List.mem_cons.1 hm with rfl | hm
  · decide
  · rcases List.mem_cons.1 hm with rfl | hm
    · decide
    · cases hm
def hdZO (m t : ByteArray) (r : Option (ByteArray × ByteArray)) : LH := match r with
  | none => [(0, rqO m t nilP nilB)]
  | some p => [(0, rqO m t (sP 1000 1) nilB), (1000, rP [p])]
def hdRO (L : Hds) (m t : ByteArray) (r : Option (ByteArray × ByteArray)) : LH := match r with
  | none => [(0, rqO m t (sP 1000 L.length) nilB), (1000, rP L)]
  | some p => [(0, rqO m t (sP 1000 (L.length + 1)) nilB), (1000, rP (L ++ [p]))]
theorem rP_snoc {L : Hds} {a b : ByteArray} {σ τ : Nat → Nat} : OW (.cells (List.take (L.length * 2) (List.drop 0 (AV.rens σ (rowV encP L))) ++ [sv a, sv b]) tPr) ((rP (L ++ [(a, b)])).ren τ) := by
  refine rP_ow ?_ rfl
  rw [rens_rowV, List.drop_zero, List.take_of_length_le (by rw [rP_len]; exact Nat.le_refl _), rowV_append]
  rfl
theorem HeaderZ_tri {W : World} (hW : LW W) (s m t : ByteArray) (hs : s.size ≤ 8192) : Tri Tryz.prog W fHdr [sv s, .ptr 0 0] [(0, rqO m t nilP nilB)] (bv (hdrB [] s).isSome) (hdZO m t (hdrB [] s)) := by
  have hq : s.size < 4294967281 := by omega
  have ha : (cut1 s coB).size ≤ 4000000 := Nat.le_trans (cut1_size s coB) (by omega)
  have hb : (cut2 s coB).size ≤ 4000000 := Nat.le_trans (cut2_size s coB) (by omega)
  have ha2 : (cut1 s coB).size ≤ 140737488355328 := by omega
  have hb2 : (cut2 s coB).size < 4294967281 := by omega
  unfold hdrB hdrW
  have asc : qIn fQn (cut1 s coB) = true → asciiB (cut1 s coB) := fun h => qN_ascii _ h
  by_cases g1 : cutK s coB = false
  · rw [if_pos g1]
    show Tri _ _ _ _ _ (bv false) [(0, rqO m t nilP nilB)]
    refine tri_run (con := [(fCut, cCut), (fAll, cAll), (fLower, cLow), (fTrim, cTrim), (fGet, cGet0 m t (lowB (cut1 s coB)))]) (hints := hHd (cut1 s coB) (cut2 s coB) (lowB (cut1 s coB)) (trimB (cut2 s coB) wsB) nil0 false true false false false true false false) (lc := []) [0, 1100, 1101, 1102] rfl (fun F hF => con_cons (cCut_ok hW hF) (con_cons (cAll_ok hF) (con_cons (cLow_ok hF) (con_cons (cTrim_ok hF) (one_c (cGet0_ok F _ _ _)))))) (fun F hF => noL) fun F => ?_
    refine cast (congrArg (VAll _) (oHdZ1_eq W s m t (cut1 s coB) (cut2 s coB) (lowB (cut1 s coB)) (trimB (cut2 s coB) wsB) F).symm) ⟨⟨?_, (fit_mk (vs' := [bv false]) (H' := [(0, rqO m t nilP nilB)]) [] rfl rfl (VW.refl _) ⟨⟨_, rfl, OW.refl _⟩, trivial⟩).fits rfl⟩⟩
    simp only [Cnd.holds, rens_rowV, Nat.blt_eq, true_and, and_true]
    and_intros
    all_goals first
      | exact wk_tup (VW.cons (Wk.refl _) (VW.cons (Wk.refl _) (VW.cons (wk_litE g1) VW.nil)))
      | exact wk_tup (VW.cons (Wk.refl _) (VW.cons (wk_lit _) VW.nil))
      | exact Nat.le_refl _
      | exact hq
      | exact ha
      | exact hb
      | exact ha2
      | exact hb2
      | exact asc
      | exact ws_ascii
      | (unfold Five; decide)
      | decide
      | (with_reducible exact trivial)
      | (with_reducible exact rfl)
      | (with_reducible exact Wk.refl _)
      | (with_reducible exact VW.refl _)
      | (with_reducible exact OW.refl _)
      | (with_reducible exact wk_lit _)
      | (with_reducible assumption)
      | exact rfl
      | exact Wk.refl _
      | exact VW.refl _
      | exact OW.refl _
      | ((repeat (first | exact VW.nil | refine VW.cons (Wk.refl _) ?_ | refine VW.cons (Wk.any _) ?_ | refine VW.cons (wk_cap (Nat.le_refl _)) ?_)); done)
  rw [if_neg g1]
  have g1 := eq_true_of_ne_false g1
  by_cases g2 : (cut1 s coB).size = 0
  · rw [if_pos g2]
    show Tri _ _ _ _ _ (bv false) [(0, rqO m t nilP nilB)]
    refine tri_run (con := [(fCut, cCut), (fAll, cAll), (fLower, cLow), (fTrim, cTrim), (fGet, cGet0 m t (lowB (cut1 s coB)))]) (hints := hHd (cut1 s coB) (cut2 s coB) (lowB (cut1 s coB)) (trimB (cut2 s coB) wsB) nil0 true false true false false true false false) (lc := []) [0, 1100, 1101, 1102] rfl (fun F hF => con_cons (cCut_ok hW hF) (con_cons (cAll_ok hF) (con_cons (cLow_ok hF) (con_cons (cTrim_ok hF) (one_c (cGet0_ok F _ _ _)))))) (fun F hF => noL) fun F => ?_
    refine cast (congrArg (VAll _) (oHdZ2_eq W s m t (cut1 s coB) (cut2 s coB) (lowB (cut1 s coB)) (trimB (cut2 s coB) wsB) F).symm) ⟨⟨?_, (fit_mk (vs' := [bv false]) (H' := [(0, rqO m t nilP nilB)]) [] rfl rfl (VW.refl _) ⟨⟨_, rfl, OW.refl _⟩, trivial⟩).fits rfl⟩⟩
    simp only [Cnd.holds, rens_rowV, Nat.blt_eq, true_and, and_true]
    and_intros
    all_goals first
      | exact wk_tup (VW.cons (Wk.refl _) (VW.cons (Wk.refl _) (VW.cons (wk_litE g1) VW.nil)))
      | exact wk_tup (VW.cons (Wk.refl _) (VW.cons (wk_lit _) VW.nil))
      | exact wk_litE (by rw [tl_nil]; exact decide_eq_true g2)
      | exact Nat.le_refl _
      | exact hq
      | exact ha
      | exact hb
      | exact ha2
      | exact hb2
      | exact asc
      | exact ws_ascii
      | (unfold Five; decide)
      | decide
      | (with_reducible exact trivial)
      | (with_reducible exact rfl)
      | (with_reducible exact Wk.refl _)
      | (with_reducible exact VW.refl _)
      | (with_reducible exact OW.refl _)
      | (with_reducible exact wk_lit _)
      | (with_reducible assumption)
      | exact rfl
      | exact Wk.refl _
      | exact VW.refl _
      | exact OW.refl _
      | ((repeat (first | exact VW.nil | refine VW.cons (Wk.refl _) ?_ | refine VW.cons (Wk.any _) ?_ | refine VW.cons (wk_cap (Nat.le_refl _)) ?_)); done)
  rw [if_neg g2]
  by_cases g3 : qIn fQn (cut1 s coB) = false
  · rw [if_pos g3]
    show Tri _ _ _ _ _ (bv false) [(0, rqO m t nilP nilB)]
    refine tri_run (con := [(fCut, cCut), (fAll, cAll), (fLower, cLow), (fTrim, cTrim), (fGet, cGet0 m t (lowB (cut1 s coB)))]) (hints := hHd (cut1 s coB) (cut2 s coB) (lowB (cut1 s coB)) (trimB (cut2 s coB) wsB) nil0 true false false true false true false false) (lc := []) [0, 1100, 1101, 1102] rfl (fun F hF => con_cons (cCut_ok hW hF) (con_cons (cAll_ok hF) (con_cons (cLow_ok hF) (con_cons (cTrim_ok hF) (one_c (cGet0_ok F _ _ _)))))) (fun F hF => noL) fun F => ?_
    refine cast (congrArg (VAll _) (oHdZ3_eq W s m t (cut1 s coB) (cut2 s coB) (lowB (cut1 s coB)) (trimB (cut2 s coB) wsB) F).symm) ⟨⟨?_, (fit_mk (vs' := [bv false]) (H' := [(0, rqO m t nilP nilB)]) [] rfl rfl (VW.refl _) ⟨⟨_, rfl, OW.refl _⟩, trivial⟩).fits rfl⟩⟩
    simp only [Cnd.holds, rens_rowV, Nat.blt_eq, true_and, and_true]
    and_intros
    all_goals first
      | exact wk_tup (VW.cons (Wk.refl _) (VW.cons (Wk.refl _) (VW.cons (wk_litE g1) VW.nil)))
      | exact wk_tup (VW.cons (Wk.refl _) (VW.cons (wk_lit _) VW.nil))
      | exact wk_litE (by rw [tl_nil]; exact decide_eq_false g2)
      | exact wk_litE (by rw [g3]; rfl)
      | exact Nat.le_refl _
      | exact hq
      | exact ha
      | exact hb
      | exact ha2
      | exact hb2
      | exact asc
      | exact ws_ascii
      | (unfold Five; decide)
      | decide
      | (with_reducible exact trivial)
      | (with_reducible exact rfl)
      | (with_reducible exact Wk.refl _)
      | (with_reducible exact VW.refl _)
      | (with_reducible exact OW.refl _)
      | (with_reducible exact wk_lit _)
      | (with_reducible assumption)
      | exact rfl
      | exact Wk.refl _
      | exact VW.refl _
      | exact OW.refl _
      | ((repeat (first | exact VW.nil | refine VW.cons (Wk.refl _) ?_ | refine VW.cons (Wk.any _) ?_ | refine VW.cons (wk_cap (Nat.le_refl _)) ?_)); done)
  rw [if_neg g3]
  have g3 := eq_true_of_ne_false g3
  have asc := asc g3
  by_cases g4 : qIn fQh (cut2 s coB) = false
  · rw [if_pos g4]
    show Tri _ _ _ _ _ (bv false) [(0, rqO m t nilP nilB)]
    refine tri_run (con := [(fCut, cCut), (fAll, cAll), (fLower, cLow), (fTrim, cTrim), (fGet, cGet0 m t (lowB (cut1 s coB)))]) (hints := hHd (cut1 s coB) (cut2 s coB) (lowB (cut1 s coB)) (trimB (cut2 s coB) wsB) nil0 true false false false true true false false) (lc := []) [0, 1100, 1101, 1102] rfl (fun F hF => con_cons (cCut_ok hW hF) (con_cons (cAll_ok hF) (con_cons (cLow_ok hF) (con_cons (cTrim_ok hF) (one_c (cGet0_ok F _ _ _)))))) (fun F hF => noL) fun F => ?_
    refine cast (congrArg (VAll _) (oHdZ4_eq W s m t (cut1 s coB) (cut2 s coB) (lowB (cut1 s coB)) (trimB (cut2 s coB) wsB) F).symm) ⟨⟨?_, (fit_mk (vs' := [bv false]) (H' := [(0, rqO m t nilP nilB)]) [] rfl rfl (VW.refl _) ⟨⟨_, rfl, OW.refl _⟩, trivial⟩).fits rfl⟩⟩
    simp only [Cnd.holds, rens_rowV, Nat.blt_eq, true_and, and_true]
    and_intros
    all_goals first
      | exact wk_tup (VW.cons (Wk.refl _) (VW.cons (Wk.refl _) (VW.cons (wk_litE g1) VW.nil)))
      | exact wk_tup (VW.cons (Wk.refl _) (VW.cons (wk_lit _) VW.nil))
      | exact wk_litE (by rw [tl_nil]; exact decide_eq_false g2)
      | exact wk_litE (by rw [g3]; rfl)
      | exact wk_litE (by rw [g4]; rfl)
      | exact Nat.le_refl _
      | exact hq
      | exact ha
      | exact hb
      | exact ha2
      | exact hb2
      | exact asc
      | exact ws_ascii
      | (unfold Five; decide)
      | decide
      | (with_reducible exact trivial)
      | (with_reducible exact rfl)
      | (with_reducible exact Wk.refl _)
      | (with_reducible exact VW.refl _)
      | (with_reducible exact OW.refl _)
      | (with_reducible exact wk_lit _)
      | (with_reducible assumption)
      | exact rfl
      | exact Wk.refl _
      | exact VW.refl _
      | exact OW.refl _
      | ((repeat (first | exact VW.nil | refine VW.cons (Wk.refl _) ?_ | refine VW.cons (Wk.any _) ?_ | refine VW.cons (wk_cap (Nat.le_refl _)) ?_)); done)
  rw [if_neg g4]
  have g4 := eq_true_of_ne_false g4
  rw [if_neg (show ¬ (getP [] (lowB (cut1 s coB))).isSome = true from fun h => by cases h)]
  by_cases g6 : lowB (cut1 s coB) = teB
  · rw [if_pos g6]
    show Tri _ _ _ _ _ (bv false) [(0, rqO m t nilP nilB)]
    refine tri_run (con := [(fCut, cCut), (fAll, cAll), (fLower, cLow), (fTrim, cTrim), (fGet, cGet0 m t (lowB (cut1 s coB)))]) (hints := hHd (cut1 s coB) (cut2 s coB) (lowB (cut1 s coB)) (trimB (cut2 s coB) wsB) nil0 true false false false false false false true) (lc := []) [0, 1100, 1101, 1102] rfl (fun F hF => con_cons (cCut_ok hW hF) (con_cons (cAll_ok hF) (con_cons (cLow_ok hF) (con_cons (cTrim_ok hF) (one_c (cGet0_ok F _ _ _)))))) (fun F hF => noL) fun F => ?_
    refine cast (congrArg (VAll _) (oHdZ6_eq W s m t (cut1 s coB) (cut2 s coB) (lowB (cut1 s coB)) (trimB (cut2 s coB) wsB) F).symm) ⟨⟨?_, (fit_mk (vs' := [bv false]) (H' := [(0, rqO m t nilP nilB)]) [] rfl rfl (VW.refl _) ⟨⟨_, rfl, OW.refl _⟩, trivial⟩).fits rfl⟩⟩
    simp only [Cnd.holds, rens_rowV, Nat.blt_eq, true_and, and_true]
    and_intros
    all_goals first
      | exact wk_tup (VW.cons (Wk.refl _) (VW.cons (Wk.refl _) (VW.cons (wk_litE g1) VW.nil)))
      | exact wk_tup (VW.cons (Wk.refl _) (VW.cons (wk_lit _) VW.nil))
      | exact wk_litE (by rw [tl_nil]; exact decide_eq_false g2)
      | exact wk_litE (by rw [g3]; rfl)
      | exact wk_litE (by rw [g4]; rfl)
      | exact wk_litE (by rw [tl_te]; exact decide_eq_true g6)
      | exact Nat.le_refl _
      | exact hq
      | exact ha
      | exact hb
      | exact ha2
      | exact hb2
      | exact asc
      | exact ws_ascii
      | (unfold Five; decide)
      | decide
      | (with_reducible exact trivial)
      | (with_reducible exact rfl)
      | (with_reducible exact Wk.refl _)
      | (with_reducible exact VW.refl _)
      | (with_reducible exact OW.refl _)
      | (with_reducible exact wk_lit _)
      | (with_reducible assumption)
      | exact rfl
      | exact Wk.refl _
      | exact VW.refl _
      | exact OW.refl _
      | ((repeat (first | exact VW.nil | refine VW.cons (Wk.refl _) ?_ | refine VW.cons (Wk.any _) ?_ | refine VW.cons (wk_cap (Nat.le_refl _)) ?_)); done)
  · rw [if_neg g6]
    show Tri _ _ _ _ _ (bv true) [(0, rqO m t (sP 1000 1) nilB), (1000, rP [(lowB (cut1 s coB), trimB (cut2 s coB) wsB)])]
    refine tri_run (con := [(fCut, cCut), (fAll, cAll), (fLower, cLow), (fTrim, cTrim), (fGet, cGet0 m t (lowB (cut1 s coB)))]) (hints := hHd (cut1 s coB) (cut2 s coB) (lowB (cut1 s coB)) (trimB (cut2 s coB) wsB) nil0 true false false false false false false false) (lc := []) [0, 1100, 1101, 1102] rfl (fun F hF => con_cons (cCut_ok hW hF) (con_cons (cAll_ok hF) (con_cons (cLow_ok hF) (con_cons (cTrim_ok hF) (one_c (cGet0_ok F _ _ _)))))) (fun F hF => noL) fun F => ?_
    refine cast (congrArg (VAll _) (oHdZ7_eq W s m t (cut1 s coB) (cut2 s coB) (lowB (cut1 s coB)) (trimB (cut2 s coB) wsB) F).symm) ⟨⟨?_, (fit_mk (vs' := [bv true]) (H' := [(0, rqO m t (sP 1000 1) nilB), (1000, rP [(lowB (cut1 s coB), trimB (cut2 s coB) wsB)])]) [(1000, 1101)] rfl rfl (VW.refl _) ⟨⟨_, rfl, OW.refl _⟩, ⟨_, rfl, OW.refl _⟩, trivial⟩).fits rfl⟩⟩
    simp only [Cnd.holds, rens_rowV, Nat.blt_eq, true_and, and_true]
    and_intros
    all_goals first
      | exact wk_tup (VW.cons (Wk.refl _) (VW.cons (Wk.refl _) (VW.cons (wk_litE g1) VW.nil)))
      | exact wk_tup (VW.cons (Wk.refl _) (VW.cons (wk_lit _) VW.nil))
      | exact wk_litE (by rw [tl_nil]; exact decide_eq_false g2)
      | exact wk_litE (by rw [g3]; rfl)
      | exact wk_litE (by rw [g4]; rfl)
      | exact wk_litE (by rw [tl_te]; exact decide_eq_false g6)
      | exact Nat.le_refl _
      | exact hq
      | exact ha
      | exact hb
      | exact ha2
      | exact hb2
      | exact asc
      | exact ws_ascii
      | (unfold Five; decide)
      | decide
      | (with_reducible exact trivial)
      | (with_reducible exact rfl)
      | (with_reducible exact Wk.refl _)
      | (with_reducible exact VW.refl _)
      | (with_reducible exact OW.refl _)
      | (with_reducible exact wk_lit _)
      | (with_reducible assumption)
      | exact rfl
      | exact Wk.refl _
      | exact VW.refl _
      | exact OW.refl _
      | ((repeat (first | exact VW.nil | refine VW.cons (Wk.refl _) ?_ | refine VW.cons (Wk.any _) ?_ | refine VW.cons (wk_cap (Nat.le_refl _)) ?_)); done)
theorem HeaderR_tri {W : World} (hW : LW W) (L : Hds) (hL : L.length ≤ 4000000) (s m t : ByteArray) (hs : s.size ≤ 8192) : Tri Tryz.prog W fHdr [sv s, .ptr 0 0] [(0, rqO m t (sP 1000 L.length) nilB), (1000, rP L)] (bv (hdrB L s).isSome) (hdRO L m t (hdrB L s)) := by
  have hq : s.size < 4294967281 := by omega
  have ha : (cut1 s coB).size ≤ 4000000 := Nat.le_trans (cut1_size s coB) (by omega)
  have hb : (cut2 s coB).size ≤ 4000000 := Nat.le_trans (cut2_size s coB) (by omega)
  have ha2 : (cut1 s coB).size ≤ 140737488355328 := by omega
  have hb2 : (cut2 s coB).size < 4294967281 := by omega
  unfold hdrB hdrW
  have k1 : (0 + L.length * 2).ble (rowV encP L).length = true := by rw [rP_len, Nat.ble_eq]; omega
  have k2 : (List.take (L.length * 2) (List.drop 0 (rowV encP L))).length.beq (L.length * 2) = true := by
    rw [List.drop_zero, List.take_of_length_le (by rw [rP_len]; exact Nat.le_refl _), rP_len]; exact Nat.beq_refl _
  have b1 : ((L.length + 1) * 32).ble 140737488355328 = true := ble_of (by omega)
  have b2 : (L.length + 1).ble 9223372036854775807 = true := ble_of (by omega)
  have asc : qIn fQn (cut1 s coB) = true → asciiB (cut1 s coB) := fun h => qN_ascii _ h
  by_cases g1 : cutK s coB = false
  · rw [if_pos g1]
    show Tri _ _ _ _ _ (bv false) [(0, rqO m t (sP 1000 L.length) nilB), (1000, rP L)]
    refine tri_run (con := [(fCut, cCut), (fAll, cAll), (fLower, cLow), (fTrim, cTrim)]) (hints := hHd (cut1 s coB) (cut2 s coB) (lowB (cut1 s coB)) (trimB (cut2 s coB) wsB) nil0 false true false false false true false false) (lc := []) [0, 1000, 1100, 1101, 1102] rfl (fun F hF => con_cons (cCut_ok hW hF) (con_cons (cAll_ok hF) (con_cons (cLow_ok hF) (one_c (cTrim_ok hF))))) (fun F hF => noL) fun F => ?_
    refine cast (congrArg (VAll _) (oHdR1_eq W L s m t (cut1 s coB) (cut2 s coB) (lowB (cut1 s coB)) (trimB (cut2 s coB) wsB) nil0 F).symm) ⟨⟨?_, (fit_mk (vs' := [bv false]) (H' := [(0, rqO m t (sP 1000 L.length) nilB), (1000, rP L)]) [(1000, 1000)] rfl rfl (VW.refl _) ⟨⟨_, rfl, OW.refl _⟩, ⟨_, rfl, rP_ow (by first | rfl | rw [rens_rowV]) rfl⟩, trivial⟩).fits rfl⟩⟩
    simp only [Cnd.holds, rens_rowV, Nat.blt_eq, true_and, and_true]
    and_intros
    all_goals first
      | exact wk_tup (VW.cons (Wk.refl _) (VW.cons (Wk.refl _) (VW.cons (wk_litE g1) VW.nil)))
      | exact wk_tup (VW.cons (Wk.refl _) (VW.cons (wk_lit _) VW.nil))
      | exact Nat.le_refl _
      | exact hq
      | exact ha
      | exact hb
      | exact ha2
      | exact hb2
      | exact asc
      | exact ws_ascii
      | (unfold Five; decide)
      | decide
      | (with_reducible exact trivial)
      | (with_reducible exact rfl)
      | (with_reducible exact Wk.refl _)
      | (with_reducible exact VW.refl _)
      | (with_reducible exact OW.refl _)
      | (with_reducible exact wk_lit _)
      | (with_reducible assumption)
      | exact rfl
      | exact Wk.refl _
      | exact VW.refl _
      | exact OW.refl _
      | ((repeat (first | exact VW.nil | refine VW.cons (Wk.refl _) ?_ | refine VW.cons (Wk.any _) ?_ | refine VW.cons (wk_cap (Nat.le_refl _)) ?_)); done)
  rw [if_neg g1]
  have g1 := eq_true_of_ne_false g1
  by_cases g2 : (cut1 s coB).size = 0
  · rw [if_pos g2]
    show Tri _ _ _ _ _ (bv false) [(0, rqO m t (sP 1000 L.length) nilB), (1000, rP L)]
    refine tri_run (con := [(fCut, cCut), (fAll, cAll), (fLower, cLow), (fTrim, cTrim)]) (hints := hHd (cut1 s coB) (cut2 s coB) (lowB (cut1 s coB)) (trimB (cut2 s coB) wsB) nil0 true false true false false true false false) (lc := []) [0, 1000, 1100, 1101, 1102] rfl (fun F hF => con_cons (cCut_ok hW hF) (con_cons (cAll_ok hF) (con_cons (cLow_ok hF) (one_c (cTrim_ok hF))))) (fun F hF => noL) fun F => ?_
    refine cast (congrArg (VAll _) (oHdR2_eq W L s m t (cut1 s coB) (cut2 s coB) (lowB (cut1 s coB)) (trimB (cut2 s coB) wsB) nil0 F).symm) ⟨⟨?_, (fit_mk (vs' := [bv false]) (H' := [(0, rqO m t (sP 1000 L.length) nilB), (1000, rP L)]) [(1000, 1000)] rfl rfl (VW.refl _) ⟨⟨_, rfl, OW.refl _⟩, ⟨_, rfl, rP_ow (by first | rfl | rw [rens_rowV]) rfl⟩, trivial⟩).fits rfl⟩⟩
    simp only [Cnd.holds, rens_rowV, Nat.blt_eq, true_and, and_true]
    and_intros
    all_goals first
      | exact wk_tup (VW.cons (Wk.refl _) (VW.cons (Wk.refl _) (VW.cons (wk_litE g1) VW.nil)))
      | exact wk_tup (VW.cons (Wk.refl _) (VW.cons (wk_lit _) VW.nil))
      | exact wk_litE (by rw [tl_nil]; exact decide_eq_true g2)
      | exact Nat.le_refl _
      | exact hq
      | exact ha
      | exact hb
      | exact ha2
      | exact hb2
      | exact asc
      | exact ws_ascii
      | (unfold Five; decide)
      | decide
      | (with_reducible exact trivial)
      | (with_reducible exact rfl)
      | (with_reducible exact Wk.refl _)
      | (with_reducible exact VW.refl _)
      | (with_reducible exact OW.refl _)
      | (with_reducible exact wk_lit _)
      | (with_reducible assumption)
      | exact rfl
      | exact Wk.refl _
      | exact VW.refl _
      | exact OW.refl _
      | ((repeat (first | exact VW.nil | refine VW.cons (Wk.refl _) ?_ | refine VW.cons (Wk.any _) ?_ | refine VW.cons (wk_cap (Nat.le_refl _)) ?_)); done)
  rw [if_neg g2]
  by_cases g3 : qIn fQn (cut1 s coB) = false
  · rw [if_pos g3]
    show Tri _ _ _ _ _ (bv false) [(0, rqO m t (sP 1000 L.length) nilB), (1000, rP L)]
    refine tri_run (con := [(fCut, cCut), (fAll, cAll), (fLower, cLow), (fTrim, cTrim)]) (hints := hHd (cut1 s coB) (cut2 s coB) (lowB (cut1 s coB)) (trimB (cut2 s coB) wsB) nil0 true false false true false true false false) (lc := []) [0, 1000, 1100, 1101, 1102] rfl (fun F hF => con_cons (cCut_ok hW hF) (con_cons (cAll_ok hF) (con_cons (cLow_ok hF) (one_c (cTrim_ok hF))))) (fun F hF => noL) fun F => ?_
    refine cast (congrArg (VAll _) (oHdR3_eq W L s m t (cut1 s coB) (cut2 s coB) (lowB (cut1 s coB)) (trimB (cut2 s coB) wsB) nil0 F).symm) ⟨⟨?_, (fit_mk (vs' := [bv false]) (H' := [(0, rqO m t (sP 1000 L.length) nilB), (1000, rP L)]) [(1000, 1000)] rfl rfl (VW.refl _) ⟨⟨_, rfl, OW.refl _⟩, ⟨_, rfl, rP_ow (by first | rfl | rw [rens_rowV]) rfl⟩, trivial⟩).fits rfl⟩⟩
    simp only [Cnd.holds, rens_rowV, Nat.blt_eq, true_and, and_true]
    and_intros
    all_goals first
      | exact wk_tup (VW.cons (Wk.refl _) (VW.cons (Wk.refl _) (VW.cons (wk_litE g1) VW.nil)))
      | exact wk_tup (VW.cons (Wk.refl _) (VW.cons (wk_lit _) VW.nil))
      | exact wk_litE (by rw [tl_nil]; exact decide_eq_false g2)
      | exact wk_litE (by rw [g3]; rfl)
      | exact Nat.le_refl _
      | exact hq
      | exact ha
      | exact hb
      | exact ha2
      | exact hb2
      | exact asc
      | exact ws_ascii
      | (unfold Five; decide)
      | decide
      | (with_reducible exact trivial)
      | (with_reducible exact rfl)
      | (with_reducible exact Wk.refl _)
      | (with_reducible exact VW.refl _)
      | (with_reducible exact OW.refl _)
      | (with_reducible exact wk_lit _)
      | (with_reducible assumption)
      | exact rfl
      | exact Wk.refl _
      | exact VW.refl _
      | exact OW.refl _
      | ((repeat (first | exact VW.nil | refine VW.cons (Wk.refl _) ?_ | refine VW.cons (Wk.any _) ?_ | refine VW.cons (wk_cap (Nat.le_refl _)) ?_)); done)
  rw [if_neg g3]
  have g3 := eq_true_of_ne_false g3
  have asc := asc g3
  by_cases g4 : qIn fQh (cut2 s coB) = false
  · rw [if_pos g4]
    show Tri _ _ _ _ _ (bv false) [(0, rqO m t (sP 1000 L.length) nilB), (1000, rP L)]
    refine tri_run (con := [(fCut, cCut), (fAll, cAll), (fLower, cLow), (fTrim, cTrim)]) (hints := hHd (cut1 s coB) (cut2 s coB) (lowB (cut1 s coB)) (trimB (cut2 s coB) wsB) nil0 true false false false true true false false) (lc := []) [0, 1000, 1100, 1101, 1102] rfl (fun F hF => con_cons (cCut_ok hW hF) (con_cons (cAll_ok hF) (con_cons (cLow_ok hF) (one_c (cTrim_ok hF))))) (fun F hF => noL) fun F => ?_
    refine cast (congrArg (VAll _) (oHdR4_eq W L s m t (cut1 s coB) (cut2 s coB) (lowB (cut1 s coB)) (trimB (cut2 s coB) wsB) nil0 F).symm) ⟨⟨?_, (fit_mk (vs' := [bv false]) (H' := [(0, rqO m t (sP 1000 L.length) nilB), (1000, rP L)]) [(1000, 1000)] rfl rfl (VW.refl _) ⟨⟨_, rfl, OW.refl _⟩, ⟨_, rfl, rP_ow (by first | rfl | rw [rens_rowV]) rfl⟩, trivial⟩).fits rfl⟩⟩
    simp only [Cnd.holds, rens_rowV, Nat.blt_eq, true_and, and_true]
    and_intros
    all_goals first
      | exact wk_tup (VW.cons (Wk.refl _) (VW.cons (Wk.refl _) (VW.cons (wk_litE g1) VW.nil)))
      | exact wk_tup (VW.cons (Wk.refl _) (VW.cons (wk_lit _) VW.nil))
      | exact wk_litE (by rw [tl_nil]; exact decide_eq_false g2)
      | exact wk_litE (by rw [g3]; rfl)
      | exact wk_litE (by rw [g4]; rfl)
      | exact Nat.le_refl _
      | exact hq
      | exact ha
      | exact hb
      | exact ha2
      | exact hb2
      | exact asc
      | exact ws_ascii
      | (unfold Five; decide)
      | decide
      | (with_reducible exact trivial)
      | (with_reducible exact rfl)
      | (with_reducible exact Wk.refl _)
      | (with_reducible exact VW.refl _)
      | (with_reducible exact OW.refl _)
      | (with_reducible exact wk_lit _)
      | (with_reducible assumption)
      | exact rfl
      | exact Wk.refl _
      | exact VW.refl _
      | exact OW.refl _
      | ((repeat (first | exact VW.nil | refine VW.cons (Wk.refl _) ?_ | refine VW.cons (Wk.any _) ?_ | refine VW.cons (wk_cap (Nat.le_refl _)) ?_)); done)
  rw [if_neg g4]
  have g4 := eq_true_of_ne_false g4
  cases g5 : getP L (lowB (cut1 s coB)) with
  | some gv =>
    have g5v : gotV (getP L (lowB (cut1 s coB))) = .tuple [sv gv, bv true] := by rw [g5]; rfl
    rw [if_pos (show (some gv).isSome = true from rfl)]
    show Tri _ _ _ _ _ (bv false) [(0, rqO m t (sP 1000 L.length) nilB), (1000, rP L)]
    refine tri_run (con := [(fCut, cCut), (fAll, cAll), (fLower, cLow), (fTrim, cTrim), (fGet, cGet L m t (lowB (cut1 s coB)) gv true)]) (hints := hHd (cut1 s coB) (cut2 s coB) (lowB (cut1 s coB)) (trimB (cut2 s coB) wsB) gv true false false false false false true false) (lc := []) [0, 1000, 1100, 1101, 1102] rfl (fun F hF => con_cons (cCut_ok hW hF) (con_cons (cAll_ok hF) (con_cons (cLow_ok hF) (con_cons (cTrim_ok hF) (one_c (cGet_ok F _ _ _ _ _ _ hL g5v)))))) (fun F hF => noL) fun F => ?_
    refine cast (congrArg (VAll _) (oHdR5_eq W L s m t (cut1 s coB) (cut2 s coB) (lowB (cut1 s coB)) (trimB (cut2 s coB) wsB) gv F).symm) ⟨⟨?_, (fit_mk (vs' := [bv false]) (H' := [(0, rqO m t (sP 1000 L.length) nilB), (1000, rP L)]) [(1000, 1000)] rfl rfl (VW.refl _) ⟨⟨_, rfl, OW.refl _⟩, ⟨_, rfl, rP_ow (by first | rfl | rw [rens_rowV]) rfl⟩, trivial⟩).fits rfl⟩⟩
    simp only [Cnd.holds, rens_rowV, Nat.blt_eq, true_and, and_true]
    and_intros
    all_goals first
      | exact wk_tup (VW.cons (Wk.refl _) (VW.cons (Wk.refl _) (VW.cons (wk_litE g1) VW.nil)))
      | exact wk_tup (VW.cons (Wk.refl _) (VW.cons (wk_lit _) VW.nil))
      | exact wk_litE (by rw [tl_nil]; exact decide_eq_false g2)
      | exact wk_litE (by rw [g3]; rfl)
      | exact wk_litE (by rw [g4]; rfl)
      | exact Nat.le_refl _
      | exact hq
      | exact ha
      | exact hb
      | exact ha2
      | exact hb2
      | exact asc
      | exact ws_ascii
      | (unfold Five; decide)
      | decide
      | (with_reducible exact trivial)
      | (with_reducible exact rfl)
      | (with_reducible exact Wk.refl _)
      | (with_reducible exact VW.refl _)
      | (with_reducible exact OW.refl _)
      | (with_reducible exact wk_lit _)
      | (with_reducible assumption)
      | exact rfl
      | exact Wk.refl _
      | exact VW.refl _
      | exact OW.refl _
      | ((repeat (first | exact VW.nil | refine VW.cons (Wk.refl _) ?_ | refine VW.cons (Wk.any _) ?_ | refine VW.cons (wk_cap (Nat.le_refl _)) ?_)); done)
  | none =>
    have g5v : gotV (getP L (lowB (cut1 s coB))) = .tuple [sv nil0, bv false] := by rw [g5]; rfl
    rw [if_neg (show ¬ (none : Option ByteArray).isSome = true from fun h => by cases h)]
    by_cases g6 : lowB (cut1 s coB) = teB
    · rw [if_pos g6]
      show Tri _ _ _ _ _ (bv false) [(0, rqO m t (sP 1000 L.length) nilB), (1000, rP L)]
      refine tri_run (con := [(fCut, cCut), (fAll, cAll), (fLower, cLow), (fTrim, cTrim), (fGet, cGet L m t (lowB (cut1 s coB)) nil0 false)]) (hints := hHd (cut1 s coB) (cut2 s coB) (lowB (cut1 s coB)) (trimB (cut2 s coB) wsB) nil0 true false false false false false false true) (lc := []) [0, 1000, 1100, 1101, 1102] rfl (fun F hF => con_cons (cCut_ok hW hF) (con_cons (cAll_ok hF) (con_cons (cLow_ok hF) (con_cons (cTrim_ok hF) (one_c (cGet_ok F _ _ _ _ _ _ hL g5v)))))) (fun F hF => noL) fun F => ?_
      refine cast (congrArg (VAll _) (oHdR6_eq W L s m t (cut1 s coB) (cut2 s coB) (lowB (cut1 s coB)) (trimB (cut2 s coB) wsB) nil0 F).symm) ⟨⟨?_, (fit_mk (vs' := [bv false]) (H' := [(0, rqO m t (sP 1000 L.length) nilB), (1000, rP L)]) [(1000, 1000)] rfl rfl (VW.refl _) ⟨⟨_, rfl, OW.refl _⟩, ⟨_, rfl, rP_ow (by first | rfl | rw [rens_rowV]) rfl⟩, trivial⟩).fits rfl⟩⟩
      simp only [Cnd.holds, rens_rowV, Nat.blt_eq, true_and, and_true]
      and_intros
      all_goals first
        | exact wk_tup (VW.cons (Wk.refl _) (VW.cons (Wk.refl _) (VW.cons (wk_litE g1) VW.nil)))
        | exact wk_tup (VW.cons (Wk.refl _) (VW.cons (wk_lit _) VW.nil))
        | exact wk_litE (by rw [tl_nil]; exact decide_eq_false g2)
        | exact wk_litE (by rw [g3]; rfl)
        | exact wk_litE (by rw [g4]; rfl)
        | exact wk_litE (by rw [tl_te]; exact decide_eq_true g6)
        | exact Nat.le_refl _
        | exact hq
        | exact ha
        | exact hb
        | exact ha2
        | exact hb2
        | exact asc
        | exact ws_ascii
        | (unfold Five; decide)
        | decide
        | (with_reducible exact trivial)
        | (with_reducible exact rfl)
        | (with_reducible exact Wk.refl _)
        | (with_reducible exact VW.refl _)
        | (with_reducible exact OW.refl _)
        | (with_reducible exact wk_lit _)
        | (with_reducible assumption)
        | exact rfl
        | exact Wk.refl _
        | exact VW.refl _
        | exact OW.refl _
        | ((repeat (first | exact VW.nil | refine VW.cons (Wk.refl _) ?_ | refine VW.cons (Wk.any _) ?_ | refine VW.cons (wk_cap (Nat.le_refl _)) ?_)); done)
    · rw [if_neg g6]
      show Tri _ _ _ _ _ (bv true) [(0, rqO m t (sP 1000 (L.length + 1)) nilB), (1000, rP (L ++ [(lowB (cut1 s coB), trimB (cut2 s coB) wsB)]))]
      refine tri_run (con := [(fCut, cCut), (fAll, cAll), (fLower, cLow), (fTrim, cTrim), (fGet, cGet L m t (lowB (cut1 s coB)) nil0 false)]) (hints := hHd (cut1 s coB) (cut2 s coB) (lowB (cut1 s coB)) (trimB (cut2 s coB) wsB) nil0 true false false false false false false false) (lc := []) [0, 1000, 1100, 1101, 1102] rfl (fun F hF => con_cons (cCut_ok hW hF) (con_cons (cAll_ok hF) (con_cons (cLow_ok hF) (con_cons (cTrim_ok hF) (one_c (cGet_ok F _ _ _ _ _ _ hL g5v)))))) (fun F hF => noL) fun F => ?_
      refine cast (congrArg (VAll _) (oHdR7_eq W L s m t (cut1 s coB) (cut2 s coB) (lowB (cut1 s coB)) (trimB (cut2 s coB) wsB) nil0 F).symm) ⟨⟨?_, (fit_mk (vs' := [bv true]) (H' := [(0, rqO m t (sP 1000 (L.length + 1)) nilB), (1000, rP (L ++ [(lowB (cut1 s coB), trimB (cut2 s coB) wsB)]))]) [(1000, 1101)] rfl rfl (VW.refl _) ⟨⟨_, rfl, OW.refl _⟩, ⟨_, rfl, rP_snoc⟩, trivial⟩).fits rfl⟩⟩
      simp only [Cnd.holds, rens_rowV, k1, k2, b1, b2, Nat.blt_eq, true_and, and_true]
      and_intros
      all_goals first
        | exact wk_tup (VW.cons (Wk.refl _) (VW.cons (Wk.refl _) (VW.cons (wk_litE g1) VW.nil)))
        | exact wk_tup (VW.cons (Wk.refl _) (VW.cons (wk_lit _) VW.nil))
        | exact wk_litE (by rw [tl_nil]; exact decide_eq_false g2)
        | exact wk_litE (by rw [g3]; rfl)
        | exact wk_litE (by rw [g4]; rfl)
        | exact wk_litE (by rw [tl_te]; exact decide_eq_false g6)
        | exact Nat.le_refl _
        | exact hq
        | exact ha
        | exact hb
        | exact ha2
        | exact hb2
        | exact asc
        | exact ws_ascii
        | (unfold Five; decide)
        | decide
        | (with_reducible exact trivial)
        | (with_reducible exact rfl)
        | (with_reducible exact Wk.refl _)
        | (with_reducible exact VW.refl _)
        | (with_reducible exact OW.refl _)
        | (with_reducible exact wk_lit _)
        | (with_reducible assumption)
        | exact rfl
        | exact Wk.refl _
        | exact VW.refl _
        | exact OW.refl _
        | ((repeat (first | exact VW.nil | refine VW.cons (Wk.refl _) ?_ | refine VW.cons (Wk.any _) ?_ | refine VW.cons (wk_cap (Nat.le_refl _)) ?_)); done)
end Go.Proofs.YtpijbbobejeemaaGreatDoor.Htp

/- Http: length. -/
set_option linter.unusedVariables false
set_option linter.unusedSimpArgs false
set_option maxRecDepth 100000
namespace Go.Proofs.YtpijbbobejeemaaGreatDoor.Htp
open Go Go.RowKit Go.Proofs.YtpijbbobejeemaaGreatDoor.Eng Go.Proofs.YtpijbbobejeemaaGreatDoor.Kit
def lenV (r : Option Nat) : AV := match r with
  | some n => .tuple [iv (Int.ofNat n), bv true]
  | none => .tuple [iv (Int.ofNat 0), bv false]
theorem Length0_tri {W : World} (m t : ByteArray) : Tri Tryz.prog W fLen [rqV m t nilP nilB] [] (.tuple [iv (Int.ofNat 0), bv true]) [] := by
  have hv4 : (0 : Nat) ≤ 0 := Nat.le_refl _
  · show Tri _ _ _ _ _ (.tuple [iv (Int.ofNat 0), bv true]) []
    refine tri_run (con := [(fGet, cGet0 m t clB)]) (hints := hLe nil0 false true false false false false) (lc := []) [] rfl (fun F hF => one_c (cGet0_ok F _ _ _)) (fun F hF => noL) fun F => ?_
    refine cast (congrArg (VAll _) (oLe0_eq W m t F).symm) ⟨⟨?_, (fit_mk (vs' := [.tuple [iv (Int.ofNat 0), bv true]]) (H' := []) [] rfl rfl (VW.refl _) trivial).fits rfl⟩⟩
    simp only [Cnd.holds, rens_rowV, Nat.blt_eq, true_and, and_true]
    and_intros
    all_goals first
      | exact wk_tup (VW.cons (Wk.refl _) (VW.cons (wk_lit _) VW.nil))
      | exact hv4
      | (unfold Five; decide)
      | (with_reducible exact trivial)
      | (with_reducible exact rfl)
      | (with_reducible exact Wk.refl _)
      | (with_reducible exact VW.refl _)
      | (with_reducible exact OW.refl _)
      | (with_reducible exact wk_lit _)
      | (with_reducible assumption)
      | exact rfl
      | exact Wk.refl _
      | exact VW.refl _
      | exact OW.refl _
      | ((repeat (first | exact VW.nil | refine VW.cons (Wk.refl _) ?_ | refine VW.cons (Wk.any _) ?_ | refine VW.cons (wk_cap (Nat.le_refl _)) ?_)); done)
theorem Length_tri {W : World} (L : Hds) (hL : L.length ≤ 4000000) (m t : ByteArray) : Tri Tryz.prog W fLen [rqV m t (sP 0 L.length) nilB] [(0, rP L)] (lenV (lenB L)) [(0, rP L)] := by
  unfold lenB
  cases g : getP L clB with
  | none =>
    have gv : gotV (getP L clB) = .tuple [sv nil0, bv false] := by rw [g]; rfl
    have hv4 : (0 : Nat) ≤ 0 := Nat.le_refl _
    show Tri _ _ _ _ _ (.tuple [iv (Int.ofNat 0), bv true]) [(0, rP L)]
    refine tri_run (con := [(fGet, cGet L m t clB nil0 false), (fAll, cAll)]) (hints := hLe nil0 false true false false false false) (lc := []) [0] rfl (fun F hF => con_cons (cGet_ok F _ _ _ _ _ _ hL gv) (one_c (cAll_ok hF))) (fun F hF => noL) fun F => ?_
    refine cast (congrArg (VAll _) (oLe1_eq W L m t nil0 F).symm) ⟨⟨?_, (fit_mk (vs' := [.tuple [iv (Int.ofNat 0), bv true]]) (H' := [(0, rP L)]) [] rfl rfl (VW.refl _) ⟨⟨_, rfl, rP_ow (by first | rfl | rw [rens_rowV]) rfl⟩, trivial⟩).fits rfl⟩⟩
    simp only [Cnd.holds, rens_rowV, Nat.blt_eq, true_and, and_true]
    and_intros
    all_goals first
      | exact wk_tup (VW.cons (Wk.refl _) (VW.cons (wk_lit _) VW.nil))
      | exact hv4
      | (unfold Five; decide)
      | (with_reducible exact trivial)
      | (with_reducible exact rfl)
      | (with_reducible exact Wk.refl _)
      | (with_reducible exact VW.refl _)
      | (with_reducible exact OW.refl _)
      | (with_reducible exact wk_lit _)
      | (with_reducible assumption)
      | exact rfl
      | exact Wk.refl _
      | exact VW.refl _
      | exact OW.refl _
      | ((repeat (first | exact VW.nil | refine VW.cons (Wk.refl _) ?_ | refine VW.cons (Wk.any _) ?_ | refine VW.cons (wk_cap (Nat.le_refl _)) ?_)); done)
  | some v =>
    have gv : gotV (getP L clB) = .tuple [sv v, bv true] := by rw [g]; rfl
    simp only
    by_cases g1 : v.size = 0
    · rw [if_pos g1]
      have hv4 : v.size ≤ 4000000 := by omega
      show Tri _ _ _ _ _ (.tuple [iv (Int.ofNat 0), bv false]) [(0, rP L)]
      refine tri_run (con := [(fGet, cGet L m t clB v true), (fAll, cAll)]) (hints := hLe v true false true false false true) (lc := []) [0] rfl (fun F hF => con_cons (cGet_ok F _ _ _ _ _ _ hL gv) (one_c (cAll_ok hF))) (fun F hF => noL) fun F => ?_
      refine cast (congrArg (VAll _) (oLe2_eq W L m t v F).symm) ⟨⟨?_, (fit_mk (vs' := [.tuple [iv (Int.ofNat 0), bv false]]) (H' := [(0, rP L)]) [] rfl rfl (VW.refl _) ⟨⟨_, rfl, rP_ow (by first | rfl | rw [rens_rowV]) rfl⟩, trivial⟩).fits rfl⟩⟩
      simp only [Cnd.holds, rens_rowV, Nat.blt_eq, true_and, and_true]
      and_intros
      all_goals first
        | exact wk_tup (VW.cons (Wk.refl _) (VW.cons (wk_lit _) VW.nil))
        | exact wk_litE (by rw [tl_nil]; exact decide_eq_true g1)
        | exact hv4
        | (unfold Five; decide)
        | (with_reducible exact trivial)
        | (with_reducible exact rfl)
        | (with_reducible exact Wk.refl _)
        | (with_reducible exact VW.refl _)
        | (with_reducible exact OW.refl _)
        | (with_reducible exact wk_lit _)
        | (with_reducible assumption)
        | exact rfl
        | exact Wk.refl _
        | exact VW.refl _
        | exact OW.refl _
        | ((repeat (first | exact VW.nil | refine VW.cons (Wk.refl _) ?_ | refine VW.cons (Wk.any _) ?_ | refine VW.cons (wk_cap (Nat.le_refl _)) ?_)); done)
    rw [if_neg g1]
    by_cases g2 : 9 < v.size
    · rw [if_pos g2]
      by_cases hv4 : v.size ≤ 4000000
      · show Tri _ _ _ _ _ (.tuple [iv (Int.ofNat 0), bv false]) [(0, rP L)]
        refine tri_run (con := [(fGet, cGet L m t clB v true), (fAll, cAll)]) (hints := hLe v true false false true false true) (lc := []) [0] rfl (fun F hF => con_cons (cGet_ok F _ _ _ _ _ _ hL gv) (one_c (cAll_ok hF))) (fun F hF => noL) fun F => ?_
        refine cast (congrArg (VAll _) (oLe3_eq W L m t v F).symm) ⟨⟨?_, (fit_mk (vs' := [.tuple [iv (Int.ofNat 0), bv false]]) (H' := [(0, rP L)]) [] rfl rfl (VW.refl _) ⟨⟨_, rfl, rP_ow (by first | rfl | rw [rens_rowV]) rfl⟩, trivial⟩).fits rfl⟩⟩
        simp only [Cnd.holds, rens_rowV, Nat.blt_eq, true_and, and_true]
        and_intros
        all_goals first
          | exact wk_tup (VW.cons (Wk.refl _) (VW.cons (wk_lit _) VW.nil))
          | exact wk_litE (by rw [tl_nil]; exact decide_eq_false g1)
          | exact wk_litE (decide_eq_true (by simp only [Int.ofNat_eq_natCast, gt_iff_lt]; omega))
          | exact hv4
          | (unfold Five; decide)
          | (with_reducible exact trivial)
          | (with_reducible exact rfl)
          | (with_reducible exact Wk.refl _)
          | (with_reducible exact VW.refl _)
          | (with_reducible exact OW.refl _)
          | (with_reducible exact wk_lit _)
          | (with_reducible assumption)
          | exact rfl
          | exact Wk.refl _
          | exact VW.refl _
          | exact OW.refl _
          | ((repeat (first | exact VW.nil | refine VW.cons (Wk.refl _) ?_ | refine VW.cons (Wk.any _) ?_ | refine VW.cons (wk_cap (Nat.le_refl _)) ?_)); done)
      · show Tri _ _ _ _ _ (.tuple [iv (Int.ofNat 0), bv false]) [(0, rP L)]
        refine tri_run (con := [(fGet, cGet L m t clB v true), (fAll, cAll)]) (hints := hLe v true false false true false true) (lc := []) [0] rfl (fun F hF => con_cons (cGet_ok F _ _ _ _ _ _ hL gv) (one_c (cAll_ok hF))) (fun F hF => noL) fun F => ?_
        refine cast (congrArg (VAll _) (oLe3_eq W L m t v F).symm) ⟨⟨?_, (fit_mk (vs' := [.tuple [iv (Int.ofNat 0), bv false]]) (H' := [(0, rP L)]) [] rfl rfl (VW.refl _) ⟨⟨_, rfl, rP_ow (by first | rfl | rw [rens_rowV]) rfl⟩, trivial⟩).fits rfl⟩⟩
        simp only [Cnd.holds, rens_rowV, Nat.blt_eq, true_and, and_true]
        and_intros
        all_goals first
          | exact wk_tup (VW.cons (Wk.refl _) (VW.cons (wk_lit _) VW.nil))
          | exact wk_litE (by rw [tl_nil]; exact decide_eq_false g1)
          | exact wk_litE (decide_eq_true (by simp only [Int.ofNat_eq_natCast, gt_iff_lt]; omega))
          | (unfold Five; decide)
          | (with_reducible exact trivial)
          | (with_reducible exact rfl)
          | (with_reducible exact Wk.refl _)
          | (with_reducible exact VW.refl _)
          | (with_reducible exact OW.refl _)
          | (with_reducible exact wk_lit _)
          | (with_reducible assumption)
          | exact rfl
          | exact Wk.refl _
          | exact VW.refl _
          | exact OW.refl _
          | ((repeat (first | exact VW.nil | refine VW.cons (Wk.refl _) ?_ | refine VW.cons (Wk.any _) ?_ | refine VW.cons (wk_cap (Nat.le_refl _)) ?_)); done)
    rw [if_neg g2]
    have hv4 : v.size ≤ 4000000 := by omega
    by_cases g3 : qIn fQd v = false
    · rw [if_pos g3]
      show Tri _ _ _ _ _ (.tuple [iv (Int.ofNat 0), bv false]) [(0, rP L)]
      refine tri_run (con := [(fGet, cGet L m t clB v true), (fAll, cAll)]) (hints := hLe v true false false false true true) (lc := []) [0] rfl (fun F hF => con_cons (cGet_ok F _ _ _ _ _ _ hL gv) (one_c (cAll_ok hF))) (fun F hF => noL) fun F => ?_
      refine cast (congrArg (VAll _) (oLe4_eq W L m t v F).symm) ⟨⟨?_, (fit_mk (vs' := [.tuple [iv (Int.ofNat 0), bv false]]) (H' := [(0, rP L)]) [] rfl rfl (VW.refl _) ⟨⟨_, rfl, rP_ow (by first | rfl | rw [rens_rowV]) rfl⟩, trivial⟩).fits rfl⟩⟩
      simp only [Cnd.holds, rens_rowV, Nat.blt_eq, true_and, and_true]
      and_intros
      all_goals first
        | exact wk_tup (VW.cons (Wk.refl _) (VW.cons (wk_lit _) VW.nil))
        | exact wk_litE (by rw [tl_nil]; exact decide_eq_false g1)
        | exact wk_litE (decide_eq_false (by simp only [Int.ofNat_eq_natCast, gt_iff_lt]; omega))
        | exact wk_litE (by rw [g3]; rfl)
        | exact hv4
        | (unfold Five; decide)
        | (with_reducible exact trivial)
        | (with_reducible exact rfl)
        | (with_reducible exact Wk.refl _)
        | (with_reducible exact VW.refl _)
        | (with_reducible exact OW.refl _)
        | (with_reducible exact wk_lit _)
        | (with_reducible assumption)
        | exact rfl
        | exact Wk.refl _
        | exact VW.refl _
        | exact OW.refl _
        | ((repeat (first | exact VW.nil | refine VW.cons (Wk.refl _) ?_ | refine VW.cons (Wk.any _) ?_ | refine VW.cons (wk_cap (Nat.le_refl _)) ?_)); done)
    · rw [if_neg g3]
      have g3 := eq_true_of_ne_false g3
      have hat : Lib.atoiAll v.data.toList = .ok (Int.ofNat (atoiN v)) := (atoiN_eq v g1 (by omega) g3).1
      show Tri _ _ _ _ _ (.tuple [iv (Int.ofNat (atoiN v)), bv true]) [(0, rP L)]
      refine tri_run (con := [(fGet, cGet L m t clB v true), (fAll, cAll), (fAtoi, cAtoi v (Int.ofNat (atoiN v)))]) (hints := hLe v true false false false false false) (lc := []) [0] rfl (fun F hF => con_cons (cGet_ok F _ _ _ _ _ _ hL gv) (con_cons (cAll_ok hF) (one_c (cAtoi_ok hF _ hv4 _ hat)))) (fun F hF => noL) fun F => ?_
      refine cast (congrArg (VAll _) (oLe5_eq W L m t v (Int.ofNat (atoiN v)) F).symm) ⟨⟨?_, (fit_mk (vs' := [.tuple [iv (Int.ofNat (atoiN v)), bv true]]) (H' := [(0, rP L)]) [] rfl rfl (VW.refl _) ⟨⟨_, rfl, rP_ow (by first | rfl | rw [rens_rowV]) rfl⟩, trivial⟩).fits rfl⟩⟩
      simp only [Cnd.holds, rens_rowV, Nat.blt_eq, true_and, and_true]
      and_intros
      all_goals first
        | exact wk_tup (VW.cons (Wk.refl _) (VW.cons (wk_lit _) VW.nil))
        | exact wk_litE (by rw [tl_nil]; exact decide_eq_false g1)
        | exact wk_litE (decide_eq_false (by simp only [Int.ofNat_eq_natCast, gt_iff_lt]; omega))
        | exact wk_litE (by rw [g3]; rfl)
        | exact hv4
        | (unfold Five; decide)
        | (with_reducible exact trivial)
        | (with_reducible exact rfl)
        | (with_reducible exact Wk.refl _)
        | (with_reducible exact VW.refl _)
        | (with_reducible exact OW.refl _)
        | (with_reducible exact wk_lit _)
        | (with_reducible assumption)
        | exact rfl
        | exact Wk.refl _
        | exact VW.refl _
        | exact OW.refl _
        | ((repeat (first | exact VW.nil | refine VW.cons (Wk.refl _) ?_ | refine VW.cons (Wk.any _) ?_ | refine VW.cons (wk_cap (Nat.le_refl _)) ?_)); done)
end Go.Proofs.YtpijbbobejeemaaGreatDoor.Htp

/- Http: Next: the loop over the header lines. -/
set_option linter.unusedVariables false
set_option linter.unusedSimpArgs false
set_option maxRecDepth 100000
namespace Go.Proofs.YtpijbbobejeemaaGreatDoor.Htp
open Go Go.RowKit Go.Proofs.YtpijbbobejeemaaGreatDoor.Eng Go.Proofs.YtpijbbobejeemaaGreatDoor.Kit
theorem gP1_ro : ∀ args, RO (gP1 args) := by
  intro args
  unfold gP1
  split
  · exact RO.ret _
  · exact RO.fail _
theorem gP2_ro : ∀ args, RO (gP2 args) := by
  intro args
  unfold gP2
  split
  · exact RO.ret _
  · exact RO.fail _
theorem gLr_ro : ∀ args, RO (gLr args) := by
  intro args
  unfold gLr
  split
  · exact RO.ret _
  · exact RO.fail _
theorem gPr_ro : ∀ args, RO (gPr args) := by
  intro args
  unfold gPr
  split
  · refine RO.read _ _ fun o => ?_
    split
    · exact RO.ret _
    · exact RO.fail _
  · exact RO.fail _
theorem gHr_ro : ∀ args, RO (gHr args) := by
  intro args
  unfold gHr
  split
  · refine RO.read _ _ fun o => ?_
    split
    · exact RO.ret _
    · exact RO.fail _
  · exact RO.fail _
theorem gNl_ro : ∀ args, RO (gNl args) := by
  intro args
  unfold gNl
  split
  · refine RO.read _ _ fun o => ?_
    split
    · exact RO.ret _
    · exact RO.fail _
  · exact RO.fail _
section
variable {W : World} {F : HP} (hW : LW W) (hF : OldOK W F)
include hW hF
theorem cHdZ_ok {m t s k v : ByteArray} (hs : s.size ≤ 8192) (h : hdrB [] s = some (k, v)) : C1OK Tryz.prog F fHdr (cHdZ m t s k v) :=
  mkC_ok hF (fun _ => bv true) gP2_ro (fun _ => rfl) (fun _ _ => by have := HeaderZ_tri hW s m t hs; rw [h] at this; exact this) fun _ => ⟨rfl, rfl, ⟨trivial, rfl, trivial⟩, all_cons ⟨trivial, trivial, trivial, trivial, trivial⟩ all_nil, ⟨trivial, trivial⟩, all_cons ⟨trivial, trivial, rfl, trivial, trivial⟩ (all_cons (rP_cl _ _) all_nil)⟩
theorem cHdZx_ok {m t s : ByteArray} (hs : s.size ≤ 8192) (h : hdrB [] s = none) : C1OK Tryz.prog F fHdr (cHdZx m t s) :=
  mkC_ok hF (fun _ => bv false) gP2_ro (fun _ => rfl) (fun _ _ => by have := HeaderZ_tri hW s m t hs; rw [h] at this; exact this) fun _ => ⟨rfl, rfl, ⟨trivial, rfl, trivial⟩, all_cons ⟨trivial, trivial, trivial, trivial, trivial⟩ all_nil, ⟨trivial, trivial⟩, all_cons ⟨trivial, trivial, trivial, trivial, trivial⟩ all_nil⟩
theorem cHdR_ok {L : Hds} {m t s : ByteArray} {p : ByteArray × ByteArray} (hs : s.size ≤ 8192) (hL : L.length ≤ 4000000) (h : hdrB L s = some p) : C1OK Tryz.prog F fHdr (cHdR L (L ++ [p]) m t s true) :=
  mkC_ok hF (fun _ => bv true) gHr_ro (fun _ => rfl) (fun _ _ => by
    have := HeaderR_tri hW L hL s m t hs
    rw [h] at this
    simp only [RT.pick, List.length_append, List.length_singleton]
    exact this) fun _ => ⟨rfl, rfl, ⟨trivial, rfl, trivial⟩, all_cons ⟨trivial, trivial, rfl, trivial, trivial⟩ (all_cons (rP_cl _ _) all_nil), ⟨trivial, trivial⟩, all_cons ⟨trivial, trivial, rfl, trivial, trivial⟩ (all_cons (rP_cl _ _) all_nil)⟩
theorem cHdRx_ok {L : Hds} {m t s : ByteArray} (hs : s.size ≤ 8192) (hL : L.length ≤ 4000000) (h : hdrB L s = none) : C1OK Tryz.prog F fHdr (cHdR L L m t s false) :=
  mkC_ok hF (fun _ => bv false) gHr_ro (fun _ => rfl) (fun _ _ => by have := HeaderR_tri hW L hL s m t hs; rw [h] at this; exact this) fun _ => ⟨rfl, rfl, ⟨trivial, rfl, trivial⟩, all_cons ⟨trivial, trivial, rfl, trivial, trivial⟩ (all_cons (rP_cl _ _) all_nil), ⟨trivial, trivial⟩, all_cons ⟨trivial, trivial, rfl, trivial, trivial⟩ (all_cons (rP_cl _ _) all_nil)⟩
theorem cLineY_ok {s m t : ByteArray} (hs : s.size ≤ 8192) (h : lnB s = some (m, t)) : C1OK Tryz.prog F fLine (cLine s m t true) :=
  mkC_ok hF (fun _ => bv true) gP2_ro (fun _ => rfl) (fun _ _ => by have := Line_tri hW s hs; rw [h] at this; exact this) fun _ => ⟨rfl, rfl, ⟨trivial, rfl, trivial⟩, all_cons ⟨trivial, trivial, trivial, trivial, trivial⟩ all_nil, ⟨trivial, trivial⟩, all_cons ⟨trivial, trivial, trivial, trivial, trivial⟩ all_nil⟩
theorem cLineN_ok {s : ByteArray} (hs : s.size ≤ 8192) (h : lnB s = none) : C1OK Tryz.prog F fLine (cLine s nil0 nil0 false) :=
  mkC_ok hF (fun _ => bv false) gP2_ro (fun _ => rfl) (fun _ _ => by have := Line_tri hW s hs; rw [h] at this; exact this) fun _ => ⟨rfl, rfl, ⟨trivial, rfl, trivial⟩, all_cons ⟨trivial, trivial, trivial, trivial, trivial⟩ all_nil, ⟨trivial, trivial⟩, all_cons ⟨trivial, trivial, trivial, trivial, trivial⟩ all_nil⟩
theorem cHead_ok {P w : List UInt8} {off : Nat} (hw : P.drop off = w) (hl : w.length ≤ 4000000) {z : Int} (hz : headZ w = z) : C1OK Tryz.prog F fHead (cHead P off w.length z) :=
  mkC_ok hF (fun _ => iv z) gPr_ro (fun _ => rfl) (fun _ _ => by rw [← hz]; exact Head_tri hW P w off hw hl) fun _ => ⟨rfl, rfl, ⟨rfl, trivial⟩, all_cons ⟨rfl, trivial⟩ (all_cons (rB1_cl _ _) all_nil), ⟨trivial, trivial⟩, all_cons ⟨rfl, trivial⟩ (all_cons (rB1_cl _ _) all_nil)⟩
omit hW hF in
theorem cHead0_ok : C1OK Tryz.prog F fHead cHead0 :=
  mkC_ok (OldOK.nothing F) (fun _ => iv 3) gP1_ro (fun _ => rfl) (fun _ _ => Head0_tri) fun _ => ⟨rfl, rfl, ⟨rfl, trivial⟩, all_cons ⟨trivial, trivial⟩ all_nil, ⟨trivial, trivial⟩, all_cons ⟨trivial, trivial⟩ all_nil⟩
omit hW in
theorem cLen_ok {L : Hds} {m t : ByteArray} {z : Int} {b : Bool} (hL : L.length ≤ 4000000) (h : lenV (lenB L) = .tuple [iv z, bv b]) : C1OK Tryz.prog F fLen (cLen L m t z b) :=
  mkC_ok hF (fun _ => .tuple [iv z, bv b]) gLr_ro (fun _ => rfl) (fun _ _ => by rw [← h]; exact Length_tri L hL m t) fun _ => ⟨rfl, rfl, ⟨⟨trivial, trivial, rfl, trivial, trivial⟩, trivial⟩, all_cons (rP_cl _ _) all_nil, ⟨⟨trivial, trivial, trivial⟩, trivial⟩, all_cons (rP_cl _ _) all_nil⟩
omit hW in
theorem cLen0_ok {m t : ByteArray} : C1OK Tryz.prog F fLen (cLen0 m t) :=
  mkC_ok hF (fun _ => .tuple [iv (Int.ofNat 0), bv true]) (fun _ => RO.ret _) (fun _ => rfl) (fun _ _ => Length0_tri m t) fun _ => ⟨rfl, rfl, ⟨⟨trivial, trivial, trivial, trivial, trivial⟩, trivial⟩, all_nil, ⟨⟨trivial, trivial, trivial⟩, trivial⟩, all_nil⟩
end
/-! The loop. -/
def nlH (P : List UInt8) (off len : Nat) (M : List ByteArray) (m t : ByteArray) (L : Hds) : LH := match L with
  | [] => [(0, rqO m t nilP nilB), (1, rS M), (2, pO 3 off len), (3, rB1 P)]
  | x :: r => [(0, rqO m t (sP 1000 (x :: r).length) nilB), (1, rS M), (2, pO 3 off len), (3, rB1 P), (1000, rP (x :: r))]
theorem nlH_lt (P : List UInt8) (off len : Nat) (M : List ByteArray) (m t : ByteArray) (L : Hds) : namesLt 1100 (nlH P off len M m t L) = true := by cases L <;> rfl
theorem nlH_snoc (P : List UInt8) (off len : Nat) (M : List ByteArray) (m t : ByteArray) (L : Hds) (p : ByteArray × ByteArray) : nlH P off len M m t (L ++ [p]) = [(0, rqO m t (sP 1000 (L ++ [p]).length) nilB), (1, rS M), (2, pO 3 off len), (3, rB1 P), (1000, rP (L ++ [p]))] := by cases L <;> rfl
def zNl : List (Nat × AV) := [(2, .ptr 0 0), (3, bv false), (4, iv (Int.ofNat 400))]
theorem nl_round {W : World} (hW : LW W) (P : List UInt8) (off len : Nat) {M ls : List ByteArray} {l0 : ByteArray} (hM : M = l0 :: ls) (hls : ∀ x ∈ ls, x.size ≤ 8192) (hn : ls.length ≤ 100000) (m t : ByteArray) (n : Nat) (L : Hds) (hL : L.length ≤ 100000) (i : Nat) (hi : i < ls.length) :
    ∃ con hints, (∀ F, OldOK W F → ∀ x ∈ con, C1OK Tryz.prog F x.1 x.2) ∧
      ((∃ p, hdrB L (ls.getD i nil0) = some p ∧ ∀ F, VAll (fun r os _ => r.2.2 = 113 ∧ r.1 = .normal ∧ ∃ l, FitT kNl iNl r.2.1 os (aNl n ls.length (i + 1)) (nlH P off len M m t (L ++ [p])) l) (wLoop con hints [] W fNext (loopN fNext 11) (tms 0 113 (aNl n ls.length i)) (nlH P off len M m t L) kNl iNl F)) ∨
       (hdrB L (ls.getD i nil0) = none ∧ ∀ F, VAll (fun r os _ => r.2.2 = 113 ∧ r.1 = .ret ∧ ∃ l, FitT kNl iNl r.2.1 os zNl [(0, rqO nil0 nil0 nilP nilB), (2, pO 3 off len), (3, rB1 P)] l) (wLoop con hints [] W fNext (loopN fNext 11) (tms 0 113 (aNl n ls.length i)) (nlH P off len M m t L) kNl iNl F))) := by
  have hw := wrap_succ i (by omega)
  have e1 := ltTN hi
  have g1 : ∀ d, (rowV encS M).getD (1 + i * 1) d = sv (ls.getD i nil0) := fun d => by
    have := rS_get M (1 + i) (by rw [hM, List.length_cons]; omega) d
    rw [Nat.zero_add, Nat.mul_one] at this
    rw [Nat.mul_one, this, hM, Nat.add_comm, List.getD_cons_succ]
  have g2 : (1 + i * 1).blt (rowV encS M).length = true := by rw [rS_len, Nat.blt_eq, hM, List.length_cons]; omega
  have g3 : i.blt ls.length = true := by rw [Nat.blt_eq]; exact hi
  have hs : (ls.getD i nil0).size ≤ 8192 := hls _ (getD_lt hi)
  generalize ls.getD i nil0 = s at *
  cases L with
  | nil =>
    cases h : hdrB [] s with
    | some p =>
      obtain ⟨k, v⟩ := p
      refine ⟨[(fHdr, cHdZ m t s k v)], hNl s i false, fun F hF => one_c (cHdZ_ok hW hF hs h), .inl ⟨_, rfl, fun F => ?_⟩⟩
      refine cast (congrArg (VAll _) (oNlZ_eq W P off len M m t s k v n ls.length i F).symm) ⟨⟨?_, rfl, rfl, [(1000, 1100)], by kernel_rfl, by kernel_rfl, ⟨Wk.refl _, Wk.refl _, Wk.refl _, Wk.refl _, Wk.refl _, Wk.refl _, trivial⟩, ⟨_, rfl, OW.refl _⟩, ⟨_, rfl, rS_ow rfl rfl⟩, ⟨_, rfl, pO_ow rfl rfl⟩, ⟨_, rfl, rB1_ow rfl rfl⟩, ⟨_, rfl, rP_ow rfl rfl⟩, trivial⟩⟩
      simp only [Cnd.holds, e1, g1, g2, g3, sv, AV.strOf, Nat.blt_eq, true_and, and_true]
      and_intros
      all_goals first
        | (with_reducible exact wk_int hw)
        | (with_reducible exact trivial)
        | (with_reducible exact rfl)
        | (with_reducible exact Wk.refl _)
        | (with_reducible exact VW.refl _)
        | (with_reducible exact OW.refl _)
        | (with_reducible exact wk_lit _)
        | (with_reducible assumption)
        | exact rfl
        | exact Wk.refl _
        | exact VW.refl _
        | exact OW.refl _
        | ((repeat (first | exact VW.nil | refine VW.cons (Wk.refl _) ?_ | refine VW.cons (Wk.any _) ?_ | refine VW.cons (wk_cap (Nat.le_refl _)) ?_)); done)
    | none =>
      refine ⟨[(fHdr, cHdZx m t s)], hNl s i true, fun F hF => one_c (cHdZx_ok hW hF hs h), .inr ⟨rfl, fun F => ?_⟩⟩
      refine cast (congrArg (VAll _) (oNlZx_eq W P off len M m t s n ls.length i F).symm) ⟨⟨?_, rfl, rfl, [], by kernel_rfl, by kernel_rfl, ⟨Wk.refl _, Wk.refl _, Wk.refl _, trivial⟩, ⟨_, rfl, OW.refl _⟩, ⟨_, rfl, pO_ow rfl rfl⟩, ⟨_, rfl, rB1_ow rfl rfl⟩, trivial⟩⟩
      simp only [Cnd.holds, e1, g1, g2, g3, sv, AV.strOf, Nat.blt_eq, true_and, and_true]
      and_intros
      all_goals first
        | (with_reducible exact wk_int hw)
        | (with_reducible exact trivial)
        | (with_reducible exact rfl)
        | (with_reducible exact Wk.refl _)
        | (with_reducible exact VW.refl _)
        | (with_reducible exact OW.refl _)
        | (with_reducible exact wk_lit _)
        | (with_reducible assumption)
        | exact rfl
        | exact Wk.refl _
        | exact VW.refl _
        | exact OW.refl _
        | ((repeat (first | exact VW.nil | refine VW.cons (Wk.refl _) ?_ | refine VW.cons (Wk.any _) ?_ | refine VW.cons (wk_cap (Nat.le_refl _)) ?_)); done)
  | cons x r =>
    have hq : nlH P off len M m t (x :: r) = [(0, rqO m t (sP 1000 (x :: r).length) nilB), (1, rS M), (2, pO 3 off len), (3, rB1 P), (1000, rP (x :: r))] := rfl
    rw [hq]
    have hsn := nlH_snoc P off len M m t (x :: r)
    generalize x :: r = L at *
    cases h : hdrB L s with
    | some p =>
      refine ⟨[(fHdr, cHdR L (L ++ [p]) m t s true)], hNl s i false, fun F hF => one_c (cHdR_ok hW hF hs (by omega) h), .inl ⟨p, rfl, fun F => ?_⟩⟩
      rw [hsn p]
      refine cast (congrArg (VAll _) (oNlR_eq W P off len M L (L ++ [p]) m t s n ls.length i F).symm) ⟨⟨?_, rfl, rfl, [(1000, 1100)], by kernel_rfl, by kernel_rfl, ⟨Wk.refl _, Wk.refl _, Wk.refl _, Wk.refl _, Wk.refl _, Wk.refl _, trivial⟩, ⟨_, rfl, OW.refl _⟩, ⟨_, rfl, rS_ow rfl rfl⟩, ⟨_, rfl, pO_ow rfl rfl⟩, ⟨_, rfl, rB1_ow rfl rfl⟩, ⟨_, rfl, rP_ow (by rw [rens_rowV]) rfl⟩, trivial⟩⟩
      simp only [Cnd.holds, e1, g1, g2, g3, sv, AV.strOf, rens_rowV, Nat.blt_eq, true_and, and_true]
      and_intros
      all_goals first
        | (with_reducible exact wk_int hw)
        | (with_reducible exact trivial)
        | (with_reducible exact rfl)
        | (with_reducible exact Wk.refl _)
        | (with_reducible exact VW.refl _)
        | (with_reducible exact OW.refl _)
        | (with_reducible exact wk_lit _)
        | (with_reducible assumption)
        | exact rfl
        | exact Wk.refl _
        | exact VW.refl _
        | exact OW.refl _
        | ((repeat (first | exact VW.nil | refine VW.cons (Wk.refl _) ?_ | refine VW.cons (Wk.any _) ?_ | refine VW.cons (wk_cap (Nat.le_refl _)) ?_)); done)
    | none =>
      refine ⟨[(fHdr, cHdR L L m t s false)], hNl s i true, fun F hF => one_c (cHdRx_ok hW hF hs (by omega) h), .inr ⟨rfl, fun F => ?_⟩⟩
      refine cast (congrArg (VAll _) (oNlRx_eq W P off len M L m t s n ls.length i F).symm) ⟨⟨?_, rfl, rfl, [], by kernel_rfl, by kernel_rfl, ⟨Wk.refl _, Wk.refl _, Wk.refl _, trivial⟩, ⟨_, rfl, OW.refl _⟩, ⟨_, rfl, pO_ow rfl rfl⟩, ⟨_, rfl, rB1_ow rfl rfl⟩, trivial⟩⟩
      simp only [Cnd.holds, e1, g1, g2, g3, sv, AV.strOf, rens_rowV, Nat.blt_eq, true_and, and_true]
      and_intros
      all_goals first
        | (with_reducible exact wk_int hw)
        | (with_reducible exact trivial)
        | (with_reducible exact rfl)
        | (with_reducible exact Wk.refl _)
        | (with_reducible exact VW.refl _)
        | (with_reducible exact OW.refl _)
        | (with_reducible exact wk_lit _)
        | (with_reducible assumption)
        | exact rfl
        | exact Wk.refl _
        | exact VW.refl _
        | exact OW.refl _
        | ((repeat (first | exact VW.nil | refine VW.cons (Wk.refl _) ?_ | refine VW.cons (Wk.any _) ?_ | refine VW.cons (wk_cap (Nat.le_refl _)) ?_)); done)
theorem drop_at {ls : List ByteArray} {i : Nat} (h : i < ls.length) : ls.drop i = ls.getD i nil0 :: ls.drop (i + 1) := by
  rw [List.drop_eq_getElem_cons h]
  simp [List.getD_eq_getElem?_getD, List.getElem?_eq_getElem h]
section
variable {W : World} (hW : LW W) (P : List UInt8) (off len : Nat) {M ls : List ByteArray} {l0 : ByteArray} (hM : M = l0 :: ls) (hls : ∀ x ∈ ls, x.size ≤ 8192) (hn : ls.length ≤ 100000) (m t : ByteArray) (n : Nat)
include hW hM hls hn
theorem nl_yes {L : Hds} (h : hdrsB [] ls = some L) (hne : L ≠ []) : LTri Tryz.prog W (loopN fNext 11) (tms 0 113 (aNl n ls.length 0)) [(0, rqO m t nilP nilB), (1, rS M), (2, pO 3 off len), (3, rB1 P)] (.exit 1) (tms 0 113 [(0, .ptr 2 0), (2, .ptr 0 0), (5, iv (Int.ofNat n))]) [(0, rqO m t (sP 1000 L.length) nilB), (2, pO 3 off len), (3, rB1 P), (1000, rP L)] := by
  refine ltri_run (W := W) (g := fNext) (b := loopN fNext 11) (σ := {q : Hds × Nat // q.2 ≤ ls.length ∧ q.1.length = q.2 ∧ hdrsB q.1 (ls.drop q.2) = some L}) 113 (fun q => aNl n ls.length q.1.2) (fun q => nlH P off len M m t q.1.1) (.exit 1) [(0, .ptr 2 0), (2, .ptr 0 0), (5, iv (Int.ofNat n))] [(0, rqO m t (sP 1000 L.length) nilB), (2, pO 3 off len), (3, rB1 P), (1000, rP L)] (fun q => ls.length - q.1.2) kNl iNl (by intro h; cases h) (fun _ => nlH_lt _ _ _ _ _ _ _) rfl ?_ ⟨([], 0), Nat.zero_le _, rfl, h⟩
  rintro ⟨⟨L1, i⟩, hi, hL, hI⟩
  simp only at hi hL hI
  simp only
  by_cases h1 : i < ls.length
  · obtain ⟨con, hints, hcon, hr⟩ := nl_round hW P off len hM hls hn m t n L1 (by omega) i h1
    rw [drop_at h1] at hI
    rcases hr with ⟨p, hp, hf⟩ | ⟨hp, hf⟩
    · refine ⟨con, hints, [], hcon, fun _ _ => noL, fun F => VAll.mono (hf F) ?_⟩
      rintro r os m ⟨q1, q2, l, q3⟩
      refine ⟨q1, .inl ⟨q2, ⟨(L1 ++ [p], i + 1), h1, by simp [hL], ?_⟩, by show ls.length - (i + 1) < ls.length - i; omega, l, q3⟩⟩
      unfold hdrsB at hI
      rw [hp] at hI
      exact hI
    · exfalso
      unfold hdrsB at hI
      rw [hp] at hI
      cases hI
  · have hie : i = ls.length := by omega
    subst hie
    rw [List.drop_length] at hI
    have hI : L1 = L := Option.some.inj hI
    subst hI
    cases L1 with
    | nil => exact absurd rfl hne
    | cons x r =>
      refine ⟨[], hintL [(fNext, 11, 0, hv (.lit false))], [], fun _ _ => noC, fun _ _ => noL, fun F => ?_⟩
      refine cast (congrArg (VAll _) (oNlRe_eq W P off len M (x :: r) m t n ls.length F).symm) ⟨⟨?_, rfl, .inr ⟨rfl, [(1000, 1000)], by kernel_rfl, by kernel_rfl, ⟨Wk.refl _, Wk.refl _, Wk.refl _, trivial⟩, ⟨_, rfl, OW.refl _⟩, ⟨_, rfl, pO_ow rfl rfl⟩, ⟨_, rfl, rB1_ow rfl rfl⟩, ⟨_, rfl, rP_ow rfl rfl⟩, trivial⟩⟩⟩
      simp only [Cnd.holds, and_true]
      exact wk_litE (ltFN (Nat.le_refl _))
theorem nl_no (h : hdrsB [] ls = none) : LTri Tryz.prog W (loopN fNext 11) (tms 0 113 (aNl n ls.length 0)) [(0, rqO m t nilP nilB), (1, rS M), (2, pO 3 off len), (3, rB1 P)] .ret (tms 0 113 zNl) [(0, rqO nil0 nil0 nilP nilB), (2, pO 3 off len), (3, rB1 P)] := by
  refine ltri_run (W := W) (g := fNext) (b := loopN fNext 11) (σ := {q : Hds × Nat // q.2 ≤ ls.length ∧ q.1.length = q.2 ∧ hdrsB q.1 (ls.drop q.2) = none}) 113 (fun q => aNl n ls.length q.1.2) (fun q => nlH P off len M m t q.1.1) .ret zNl [(0, rqO nil0 nil0 nilP nilB), (2, pO 3 off len), (3, rB1 P)] (fun q => ls.length - q.1.2) kNl iNl (by intro h; cases h) (fun _ => nlH_lt _ _ _ _ _ _ _) rfl ?_ ⟨([], 0), Nat.zero_le _, rfl, h⟩
  rintro ⟨⟨L1, i⟩, hi, hL, hI⟩
  simp only at hi hL hI
  simp only
  by_cases h1 : i < ls.length
  · obtain ⟨con, hints, hcon, hr⟩ := nl_round hW P off len hM hls hn m t n L1 (by omega) i h1
    rw [drop_at h1] at hI
    rcases hr with ⟨p, hp, hf⟩ | ⟨hp, hf⟩
    · refine ⟨con, hints, [], hcon, fun _ _ => noL, fun F => VAll.mono (hf F) ?_⟩
      rintro r os m ⟨q1, q2, l, q3⟩
      refine ⟨q1, .inl ⟨q2, ⟨(L1 ++ [p], i + 1), h1, by simp [hL], ?_⟩, by show ls.length - (i + 1) < ls.length - i; omega, l, q3⟩⟩
      unfold hdrsB at hI
      rw [hp] at hI
      exact hI
    · refine ⟨con, hints, [], hcon, fun _ _ => noL, fun F => VAll.mono (hf F) ?_⟩
      rintro r os m ⟨q1, q2, l, q3⟩
      exact ⟨q1, .inr ⟨q2, l, q3⟩⟩
  · have hie : i = ls.length := by omega
    subst hie
    rw [List.drop_length] at hI
    cases hI
end
theorem nl_zero {W : World} (P : List UInt8) (off len : Nat) (M : List ByteArray) (m t : ByteArray) (n : Nat) : LTri Tryz.prog W (loopN fNext 11) (tms 0 113 (aNl n 0 0)) [(0, rqO m t nilP nilB), (1, rS M), (2, pO 3 off len), (3, rB1 P)] (.exit 1) (tms 0 113 [(0, .ptr 2 0), (2, .ptr 0 0), (5, iv (Int.ofNat n))]) [(0, rqO m t nilP nilB), (2, pO 3 off len), (3, rB1 P)] := by
  refine ltri_run (W := W) (g := fNext) (b := loopN fNext 11) (σ := Unit) 113 (fun _ => aNl n 0 0) (fun _ => [(0, rqO m t nilP nilB), (1, rS M), (2, pO 3 off len), (3, rB1 P)]) (.exit 1) [(0, .ptr 2 0), (2, .ptr 0 0), (5, iv (Int.ofNat n))] [(0, rqO m t nilP nilB), (2, pO 3 off len), (3, rB1 P)] (fun _ => 0) kNl iNl (by intro h; cases h) (fun _ => rfl) rfl (fun _ => ?_) ()
  refine ⟨[], hintL [(fNext, 11, 0, hv (.lit false))], [], fun _ _ => noC, fun _ _ => noL, fun F => ?_⟩
  refine cast (congrArg (VAll _) (oNlZe_eq W P off len M m t n 0 F).symm) ⟨⟨?_, rfl, .inr ⟨rfl, [], by kernel_rfl, by kernel_rfl, ⟨Wk.refl _, Wk.refl _, Wk.refl _, trivial⟩, ⟨_, rfl, OW.refl _⟩, ⟨_, rfl, pO_ow rfl rfl⟩, ⟨_, rfl, rB1_ow rfl rfl⟩, trivial⟩⟩⟩
  simp only [Cnd.holds, and_true]
  exact wk_litE (ltFN (Nat.le_refl _))
end Go.Proofs.YtpijbbobejeemaaGreatDoor.Htp

/- Http: Next, on the opened parser. -/
set_option linter.unusedVariables false
set_option linter.unusedSimpArgs false
set_option maxRecDepth 100000
namespace Go.Proofs.YtpijbbobejeemaaGreatDoor.Htp
open Go Go.RowKit Go.Proofs.YtpijbbobejeemaaGreatDoor.Eng Go.Proofs.YtpijbbobejeemaaGreatDoor.Kit
theorem wk_agg {a b : List AV} (h : VW a b) : Wk (.agg a) (.agg b) := fun N y hy => by
  simp only [VR] at *
  obtain ⟨vs, h1, rfl⟩ := hy
  exact ⟨vs, h N vs h1, rfl⟩
def rz0 : AV := rqV nil0 nil0 nilP nilB
def noV (s : Nat) : AV := .tuple [rz0, bv false, iv (Int.ofNat s)]
def hsV (L : Hds) : AV := match L with
  | [] => nilP
  | x :: r => sP 1000 (x :: r).length
def yesV (m t : ByteArray) (L : Hds) (B : List UInt8) : AV := .tuple [rqV m t (hsV L) (sB 1001 B.length), bv true, iv (Int.ofNat 0)]
theorem lNl_ok {W : World} {F : HP} (hW : LW W) (hF : OldOK W F) (P : List UInt8) (off len : Nat) {M ls : List ByteArray} {l0 : ByteArray} (hM : M = l0 :: ls) (hls : ∀ x ∈ ls, x.size ≤ 8192) (hn : ls.length ≤ 100000) (m t : ByteArray) (n : Nat) {L : Hds} (h : hdrsB [] ls = some L) (hne : L ≠ []) : L1OK Tryz.prog F (loopN fNext 11) (lNl P off len M m t n ls.length L) :=
  mkL_ok hF gNl_ro (fun _ _ => by
    simp only [RT.pick]
    exact nl_yes hW P off len hM hls hn m t n h hne) fun _ => by
    simp only [RT.pick]
    exact closedT rfl rfl (all_cons rfl (all_cons rfl (all_cons trivial (all_cons rfl (all_cons trivial (all_cons trivial all_nil)))))) (all_cons ⟨trivial, trivial, trivial, trivial, trivial⟩ (all_cons (rS_cl _ _) (all_cons ⟨rfl, trivial⟩ (all_cons (rB1_cl _ _) all_nil)))) (all_cons rfl (all_cons rfl (all_cons trivial all_nil))) (all_cons ⟨trivial, trivial, rfl, trivial, trivial⟩ (all_cons ⟨rfl, trivial⟩ (all_cons (rB1_cl _ _) (all_cons (rP_cl _ _) all_nil))))
theorem lNlZ_ok {W : World} {F : HP} (hF : OldOK W F) (P : List UInt8) (off len : Nat) (M : List ByteArray) (m t : ByteArray) (n : Nat) : L1OK Tryz.prog F (loopN fNext 11) (lNlZ P off len M m t n 0) :=
  mkL_ok hF gNl_ro (fun _ _ => by
    simp only [RT.pick]
    exact nl_zero P off len M m t n) fun _ => by
    simp only [RT.pick]
    exact closedT rfl rfl (all_cons rfl (all_cons rfl (all_cons trivial (all_cons rfl (all_cons trivial (all_cons trivial all_nil)))))) (all_cons ⟨trivial, trivial, trivial, trivial, trivial⟩ (all_cons (rS_cl _ _) (all_cons ⟨rfl, trivial⟩ (all_cons (rB1_cl _ _) all_nil)))) (all_cons rfl (all_cons rfl (all_cons trivial all_nil))) (all_cons ⟨trivial, trivial, trivial, trivial, trivial⟩ (all_cons ⟨rfl, trivial⟩ (all_cons (rB1_cl _ _) all_nil)))
theorem lNlX_ok {W : World} {F : HP} (hW : LW W) (hF : OldOK W F) (P : List UInt8) (off len : Nat) {M ls : List ByteArray} {l0 : ByteArray} (hM : M = l0 :: ls) (hls : ∀ x ∈ ls, x.size ≤ 8192) (hn : ls.length ≤ 100000) (m t : ByteArray) (n : Nat) (h : hdrsB [] ls = none) : L1OK Tryz.prog F (loopN fNext 11) (lNlX P off len M m t n ls.length) :=
  mkL_ok hF gNl_ro (fun _ _ => by
    simp only [RT.pick]
    exact nl_no hW P off len hM hls hn m t n h) fun _ => by
    simp only [RT.pick]
    exact closedT rfl rfl (all_cons rfl (all_cons rfl (all_cons trivial (all_cons rfl (all_cons trivial (all_cons trivial all_nil)))))) (all_cons ⟨trivial, trivial, trivial, trivial, trivial⟩ (all_cons (rS_cl _ _) (all_cons ⟨rfl, trivial⟩ (all_cons (rB1_cl _ _) all_nil)))) (all_cons rfl (all_cons trivial (all_cons trivial all_nil))) (all_cons ⟨trivial, trivial, trivial, trivial, trivial⟩ (all_cons ⟨rfl, trivial⟩ (all_cons (rB1_cl _ _) all_nil)))
theorem wrap_nat {a b : Nat} (h : a + b ≤ 100000000) : IntKind.i64.wrap (Int.ofNat a + Int.ofNat b) = Int.ofNat (a + b) := by
  have e : Int.ofNat a + Int.ofNat b = Int.ofNat (a + b) := rfl
  rw [e]
  exact IntWalk.i64_in _ (by simp only [Int.ofNat_eq_natCast]; omega)
theorem wrap_sub {a b : Nat} (h : b ≤ a) (ha : a ≤ 100000000) : IntKind.i64.wrap ((a : Int) - Int.ofNat b) = Int.ofNat (a - b) := by
  have e : (a : Int) - Int.ofNat b = Int.ofNat (a - b) := by simp only [Int.ofNat_eq_natCast]; omega
  rw [e]
  exact IntWalk.i64_in _ (by simp only [Int.ofNat_eq_natCast]; omega)
theorem Next0_tri : Tri Tryz.prog default fNext [.ptr 0 0] [(0, pZ)] (noV 0) [(0, pZ)] := by
  refine tri_run (con := [(fHead, cHead0)]) (hints := hintL (hxA true true false false)) (lc := []) kNx rfl (fun F hF => one_c cHead0_ok) (fun F hF => noL) fun F => ?_
  refine cast (congrArg (VAll _) (oNx0_eq F).symm) ⟨⟨?_, (fit_mk (vs' := [noV 0]) (H' := [(0, pZ)]) [] rfl rfl (VW.refl _) ⟨⟨_, rfl, pZ_ow rfl⟩, trivial⟩).fits rfl⟩⟩
  simp only [Cnd.holds, rens_rowV, Nat.blt_eq, true_and, and_true]
  and_intros
  all_goals first
    | (with_reducible exact trivial)
    | (with_reducible exact rfl)
    | (with_reducible exact Wk.refl _)
    | (with_reducible exact VW.refl _)
    | (with_reducible exact OW.refl _)
    | (with_reducible exact wk_lit _)
    | (with_reducible assumption)
    | exact rfl
    | exact Wk.refl _
    | exact VW.refl _
    | exact OW.refl _
    | ((repeat (first | exact VW.nil | refine VW.cons (Wk.refl _) ?_ | refine VW.cons (Wk.any _) ?_ | refine VW.cons (wk_cap (Nat.le_refl _)) ?_)); done)
section
variable {W : World} (hW : LW W) {P w : List UInt8} {off : Nat} (hw : P.drop off = w) (hl : w.length ≤ 4000000)
include hW hw hl
theorem nx1 (h : headZ w = 3) (h8 : 8192 < w.length) : Tri Tryz.prog W fNext [.ptr 0 0] [(0, pO 1002 off w.length), (1002, rB1 P)] (noV 413) [(0, pO 1002 off w.length), (1002, rB1 P)] := by
  refine tri_run (con := [(fHead, cHead P off w.length 3)]) (hints := hintL (hxA true true true false)) (lc := []) kNx rfl (fun F hF => one_c (cHead_ok hW hF hw hl h)) (fun F hF => noL) fun F => ?_
  refine cast (congrArg (VAll _) (oNx1_eq W P off w.length F).symm) ⟨⟨?_, (fit_mk (vs' := [noV 413]) (H' := [(0, pO 1002 off w.length), (1002, rB1 P)]) [(1002, 1002)] rfl rfl (VW.refl _) ⟨⟨_, rfl, pO_ow rfl rfl⟩, ⟨_, rfl, rB1_ow (by simp only [rens_rowV]) rfl⟩, trivial⟩).fits rfl⟩⟩
  simp only [Cnd.holds, rens_rowV, Nat.blt_eq, true_and, and_true]
  and_intros
  all_goals first
    | exact wk_litE (decide_eq_true (by simp only [Int.ofNat_eq_natCast, gt_iff_lt]; omega))
    | exact wk_litE (decide_eq_false (by simp only [Int.ofNat_eq_natCast, gt_iff_lt]; omega))
    | (rw [rens_rowV]; exact OW.refl _)
    | (with_reducible exact trivial)
    | (with_reducible exact rfl)
    | (with_reducible exact Wk.refl _)
    | (with_reducible exact VW.refl _)
    | (with_reducible exact OW.refl _)
    | (with_reducible exact wk_lit _)
    | (with_reducible assumption)
    | exact rfl
    | exact Wk.refl _
    | exact VW.refl _
    | exact OW.refl _
    | ((repeat (first | exact VW.nil | refine VW.cons (Wk.refl _) ?_ | refine VW.cons (Wk.any _) ?_ | refine VW.cons (wk_cap (Nat.le_refl _)) ?_)); done)
theorem nx2 (h : headZ w = 3) (h8 : ¬ 8192 < w.length) : Tri Tryz.prog W fNext [.ptr 0 0] [(0, pO 1002 off w.length), (1002, rB1 P)] (noV 0) [(0, pO 1002 off w.length), (1002, rB1 P)] := by
  refine tri_run (con := [(fHead, cHead P off w.length 3)]) (hints := hintL (hxA true true false false)) (lc := []) kNx rfl (fun F hF => one_c (cHead_ok hW hF hw hl h)) (fun F hF => noL) fun F => ?_
  refine cast (congrArg (VAll _) (oNx2_eq W P off w.length F).symm) ⟨⟨?_, (fit_mk (vs' := [noV 0]) (H' := [(0, pO 1002 off w.length), (1002, rB1 P)]) [(1002, 1002)] rfl rfl (VW.refl _) ⟨⟨_, rfl, pO_ow rfl rfl⟩, ⟨_, rfl, rB1_ow (by simp only [rens_rowV]) rfl⟩, trivial⟩).fits rfl⟩⟩
  simp only [Cnd.holds, rens_rowV, Nat.blt_eq, true_and, and_true]
  and_intros
  all_goals first
    | exact wk_litE (decide_eq_true (by simp only [Int.ofNat_eq_natCast, gt_iff_lt]; omega))
    | exact wk_litE (decide_eq_false (by simp only [Int.ofNat_eq_natCast, gt_iff_lt]; omega))
    | (rw [rens_rowV]; exact OW.refl _)
    | (with_reducible exact trivial)
    | (with_reducible exact rfl)
    | (with_reducible exact Wk.refl _)
    | (with_reducible exact VW.refl _)
    | (with_reducible exact OW.refl _)
    | (with_reducible exact wk_lit _)
    | (with_reducible assumption)
    | exact rfl
    | exact Wk.refl _
    | exact VW.refl _
    | exact OW.refl _
    | ((repeat (first | exact VW.nil | refine VW.cons (Wk.refl _) ?_ | refine VW.cons (Wk.any _) ?_ | refine VW.cons (wk_cap (Nat.le_refl _)) ?_)); done)
theorem nx3 {n : Nat} (h : headZ w = Int.ofNat n) (h8 : 8192 < n) : Tri Tryz.prog W fNext [.ptr 0 0] [(0, pO 1002 off w.length), (1002, rB1 P)] (noV 413) [(0, pO 1002 off w.length), (1002, rB1 P)] := by
  refine tri_run (con := [(fHead, cHead P off w.length (Int.ofNat n))]) (hints := hintL (hxA false false false true)) (lc := []) kNx rfl (fun F hF => one_c (cHead_ok hW hF hw hl h)) (fun F hF => noL) fun F => ?_
  refine cast (congrArg (VAll _) (oNx3_eq W P off w.length n F).symm) ⟨⟨?_, (fit_mk (vs' := [noV 413]) (H' := [(0, pO 1002 off w.length), (1002, rB1 P)]) [(1002, 1002)] rfl rfl (VW.refl _) ⟨⟨_, rfl, pO_ow rfl rfl⟩, ⟨_, rfl, rB1_ow (by simp only [rens_rowV]) rfl⟩, trivial⟩).fits rfl⟩⟩
  simp only [Cnd.holds, rens_rowV, Nat.blt_eq, true_and, and_true]
  and_intros
  all_goals first
    | exact wk_litE (decide_eq_true (by simp only [Int.ofNat_eq_natCast, gt_iff_lt]; omega))
    | exact wk_litE (decide_eq_false (by simp only [Int.ofNat_eq_natCast, gt_iff_lt]; omega))
    | (rw [rens_rowV]; exact OW.refl _)
    | (with_reducible exact trivial)
    | (with_reducible exact rfl)
    | (with_reducible exact Wk.refl _)
    | (with_reducible exact VW.refl _)
    | (with_reducible exact OW.refl _)
    | (with_reducible exact wk_lit _)
    | (with_reducible assumption)
    | exact rfl
    | exact Wk.refl _
    | exact VW.refl _
    | exact OW.refl _
    | ((repeat (first | exact VW.nil | refine VW.cons (Wk.refl _) ?_ | refine VW.cons (Wk.any _) ?_ | refine VW.cons (wk_cap (Nat.le_refl _)) ?_)); done)
variable {n : Nat} (h : headZ w = Int.ofNat n) (hn : n ≤ w.length) (h8 : n ≤ 8192) (hoff : off + w.length = P.length) {l0 : ByteArray} {ls : List ByteArray} (hM : linesB (w.take n) = l0 :: ls)
include h hn h8 hoff hM
theorem nx4 (h4 : 4 ≤ n) (hline : lnB l0 = none) : Tri Tryz.prog W fNext [.ptr 0 0] [(0, pO 1002 off w.length), (1002, rB1 P)] (noV 400) [(0, pO 1002 off w.length), (1002, rB1 P)] := by
  have hs1l : (w.take n).length = n := by rw [List.length_take]; omega
  have hs1 : (tB (w.take n)).size ≤ 9223372036854775807 := by rw [tB_size, hs1l]; omega
  have hs2' : (sufB (tB (w.take n)) crB2).size ≤ 8192 := Nat.le_trans (sufB_size _ _) (by rw [tB_size, hs1l]; exact h8)
  have hs2 : (sufB (tB (w.take n)) crB2).size < 4294967281 := by omega
  have hsz : ∀ x ∈ l0 :: ls, x.size ≤ 8192 := fun x hx => Nat.le_trans (splB_size (s := sufB (tB (w.take n)) crB2) (t := crB) (by rw [← hM] at hx; exact hx)) hs2'
  have hl0 : l0.size ≤ 8192 := hsz _ List.mem_cons_self
  have hls : ∀ x ∈ ls, x.size ≤ 8192 := fun x hx => hsz _ (List.mem_cons_of_mem _ hx)
  have hln : ls.length ≤ 8192 := by
    have := splB_len (sufB (tB (w.take n)) crB2) crB (by decide)
    have e : splB (sufB (tB (w.take n)) crB2) crB = l0 :: ls := hM
    rw [e, List.length_cons] at this
    omega
  have hr1 : off + n ≤ (rowV encB P).length := by rw [rB_len]; omega
  have hr2 : List.take n (List.drop off (rowV encB P)) = vmap ((tB (w.take n)).data.toList.map fun b => Value.int IntKind.u8 (b.toNat : Int)) := by rw [rowB_drop, hw, rowB_take, rowB_map, tB_data]
  have row : OW (AO.cells (vmap (List.map Value.string (splB (sufB (tB (w.take n)) crB2) (ByteArray.mk (Array.mk [13, 10]))))) tStr) (AO.cells (rowV encS (l0 :: ls)) tStr) := by
    have e : splB (sufB (tB (w.take n)) crB2) (ByteArray.mk (Array.mk [13, 10])) = l0 :: ls := hM
    rw [e]; exact ow_cells (rS_map _).symm
  have slw : Wk (AV.slice 1101 0 (List.map Value.string (splB (sufB (tB (w.take n)) crB2) (ByteArray.mk (Array.mk [13, 10])))).length 1 (Cp.lo (List.map Value.string (splB (sufB (tB (w.take n)) crB2) (ByteArray.mk (Array.mk [13, 10])))).length)) (AV.slice 1101 0 (ls.length + 1) 1 (Cp.lo (ls.length + 1))) := by
    have e : splB (sufB (tB (w.take n)) crB2) (ByteArray.mk (Array.mk [13, 10])) = l0 :: ls := hM
    rw [e, List.length_map]; exact Wk.refl _
  have g1 : ∀ d, (rowV encS (l0 :: ls)).getD 0 d = sv l0 := fun d => rfl
  have g2 : Nat.blt 0 (rowV encS (l0 :: ls)).length = true := by rw [rS_len, Nat.blt_eq]; exact Nat.succ_pos _
  have e1 : n.ble w.length = true := by rw [Nat.ble_eq]; exact hn
  have e2 : w.length.ble w.length = true := by rw [Nat.ble_eq]; exact Nat.le_refl _
  have e3 : (ls.length + 1).ble (ls.length + 1) = true := by rw [Nat.ble_eq]; exact Nat.le_refl _
  refine tri_run (con := cA P off w.length n l0 nil0 nil0 false) (hints := hintL (hxA false false false false ++ hxB (tB (w.take n)) (sufB (tB (w.take n)) crB2) l0 (l0 :: ls) ls.length true)) (lc := []) kNx rfl (fun F hF => con_cons (cHead_ok hW hF hw hl h) (con_cons (cTSuf_ok hF) (con_cons (cSplt_ok hW hF) (one_c (cLineN_ok hW hF hl0 hline))))) (fun F hF => noL) fun F => ?_
  refine cast (congrArg (VAll _) (oNx4_eq W P (tB (w.take n)) (sufB (tB (w.take n)) crB2) l0 (l0 :: ls) off w.length n ls.length F).symm) ⟨⟨?_, (fit_mk (vs' := [noV 400]) (H' := [(0, pO 1002 off w.length), (1002, rB1 P)]) [(1002, 1002)] rfl rfl (VW.refl _) ⟨⟨_, rfl, pO_ow rfl rfl⟩, ⟨_, rfl, rB1_ow (by simp only [rens_rowV]) rfl⟩, trivial⟩).fits rfl⟩⟩
  simp only [Cnd.holds, rens_rowV, g1, g2, e1, e2, e3, sv, AV.strOf, Nat.blt_eq, true_and, and_true]
  and_intros
  all_goals first
    | exact hr1
    | exact hr2
    | exact hs1
    | exact hs2
    | exact row
    | exact slw
    | exact Nat.le_refl _
    | decide
    | exact wk_litE (decide_eq_true (by simp only [Int.ofNat_eq_natCast, gt_iff_lt]; omega))
    | exact wk_litE (decide_eq_false (by simp only [Int.ofNat_eq_natCast, gt_iff_lt]; omega))
    | (rw [rens_rowV]; exact OW.refl _)
    | (with_reducible exact trivial)
    | (with_reducible exact rfl)
    | (with_reducible exact Wk.refl _)
    | (with_reducible exact VW.refl _)
    | (with_reducible exact OW.refl _)
    | (with_reducible exact wk_lit _)
    | (with_reducible assumption)
    | exact rfl
    | exact Wk.refl _
    | exact VW.refl _
    | exact OW.refl _
    | ((repeat (first | exact VW.nil | refine VW.cons (Wk.refl _) ?_ | refine VW.cons (Wk.any _) ?_ | refine VW.cons (wk_cap (Nat.le_refl _)) ?_)); done)
theorem nx4b (h4 : n = 2) (hline : lnB l0 = none) : Tri Tryz.prog W fNext [.ptr 0 0] [(0, pO 1002 off w.length), (1002, rB1 P)] (noV 400) [(0, pO 1002 off w.length), (1002, rB1 P)] := by
  have hs1l : (w.take n).length = n := by rw [List.length_take]; omega
  have hs1 : (tB (w.take n)).size ≤ 9223372036854775807 := by rw [tB_size, hs1l]; omega
  have hs2' : (sufB (tB (w.take n)) crB2).size ≤ 8192 := Nat.le_trans (sufB_size _ _) (by rw [tB_size, hs1l]; exact h8)
  have hs2 : (sufB (tB (w.take n)) crB2).size < 4294967281 := by omega
  have hsz : ∀ x ∈ l0 :: ls, x.size ≤ 8192 := fun x hx => Nat.le_trans (splB_size (s := sufB (tB (w.take n)) crB2) (t := crB) (by rw [← hM] at hx; exact hx)) hs2'
  have hl0 : l0.size ≤ 8192 := hsz _ List.mem_cons_self
  have hls : ∀ x ∈ ls, x.size ≤ 8192 := fun x hx => hsz _ (List.mem_cons_of_mem _ hx)
  have hln : ls.length ≤ 8192 := by
    have := splB_len (sufB (tB (w.take n)) crB2) crB (by decide)
    have e : splB (sufB (tB (w.take n)) crB2) crB = l0 :: ls := hM
    rw [e, List.length_cons] at this
    omega
  have hr1 : off + n ≤ (rowV encB P).length := by rw [rB_len]; omega
  have hr2 : List.take n (List.drop off (rowV encB P)) = vmap ((tB (w.take n)).data.toList.map fun b => Value.int IntKind.u8 (b.toNat : Int)) := by rw [rowB_drop, hw, rowB_take, rowB_map, tB_data]
  have row : OW (AO.cells (vmap (List.map Value.string (splB (sufB (tB (w.take n)) crB2) (ByteArray.mk (Array.mk [13, 10]))))) tStr) (AO.cells (rowV encS (l0 :: ls)) tStr) := by
    have e : splB (sufB (tB (w.take n)) crB2) (ByteArray.mk (Array.mk [13, 10])) = l0 :: ls := hM
    rw [e]; exact ow_cells (rS_map _).symm
  have slw : Wk (AV.slice 1101 0 (List.map Value.string (splB (sufB (tB (w.take n)) crB2) (ByteArray.mk (Array.mk [13, 10])))).length 1 (Cp.lo (List.map Value.string (splB (sufB (tB (w.take n)) crB2) (ByteArray.mk (Array.mk [13, 10])))).length)) (AV.slice 1101 0 (ls.length + 1) 1 (Cp.lo (ls.length + 1))) := by
    have e : splB (sufB (tB (w.take n)) crB2) (ByteArray.mk (Array.mk [13, 10])) = l0 :: ls := hM
    rw [e, List.length_map]; exact Wk.refl _
  have g1 : ∀ d, (rowV encS (l0 :: ls)).getD 0 d = sv l0 := fun d => rfl
  have g2 : Nat.blt 0 (rowV encS (l0 :: ls)).length = true := by rw [rS_len, Nat.blt_eq]; exact Nat.succ_pos _
  have e1 : n.ble w.length = true := by rw [Nat.ble_eq]; exact hn
  have e2 : w.length.ble w.length = true := by rw [Nat.ble_eq]; exact Nat.le_refl _
  have e3 : (ls.length + 1).ble (ls.length + 1) = true := by rw [Nat.ble_eq]; exact Nat.le_refl _
  refine tri_run (con := cA P off w.length n l0 nil0 nil0 false) (hints := hintL (hxA true false false false ++ hxB (tB (w.take n)) (sufB (tB (w.take n)) crB2) l0 (l0 :: ls) ls.length true)) (lc := []) kNx rfl (fun F hF => con_cons (cHead_ok hW hF hw hl h) (con_cons (cTSuf_ok hF) (con_cons (cSplt_ok hW hF) (one_c (cLineN_ok hW hF hl0 hline))))) (fun F hF => noL) fun F => ?_
  refine cast (congrArg (VAll _) (oNx4b_eq W P (tB (w.take n)) (sufB (tB (w.take n)) crB2) l0 (l0 :: ls) off w.length n ls.length F).symm) ⟨⟨?_, (fit_mk (vs' := [noV 400]) (H' := [(0, pO 1002 off w.length), (1002, rB1 P)]) [(1002, 1002)] rfl rfl (VW.refl _) ⟨⟨_, rfl, pO_ow rfl rfl⟩, ⟨_, rfl, rB1_ow (by simp only [rens_rowV]) rfl⟩, trivial⟩).fits rfl⟩⟩
  simp only [Cnd.holds, rens_rowV, g1, g2, e1, e2, e3, sv, AV.strOf, Nat.blt_eq, true_and, and_true]
  and_intros
  all_goals first
    | exact wk_litE (by rw [h4]; rfl)
    | exact hr1
    | exact hr2
    | exact hs1
    | exact hs2
    | exact row
    | exact slw
    | exact Nat.le_refl _
    | decide
    | exact wk_litE (decide_eq_true (by simp only [Int.ofNat_eq_natCast, gt_iff_lt]; omega))
    | exact wk_litE (decide_eq_false (by simp only [Int.ofNat_eq_natCast, gt_iff_lt]; omega))
    | (rw [rens_rowV]; exact OW.refl _)
    | (with_reducible exact trivial)
    | (with_reducible exact rfl)
    | (with_reducible exact Wk.refl _)
    | (with_reducible exact VW.refl _)
    | (with_reducible exact OW.refl _)
    | (with_reducible exact wk_lit _)
    | (with_reducible assumption)
    | exact rfl
    | exact Wk.refl _
    | exact VW.refl _
    | exact OW.refl _
    | ((repeat (first | exact VW.nil | refine VW.cons (Wk.refl _) ?_ | refine VW.cons (Wk.any _) ?_ | refine VW.cons (wk_cap (Nat.le_refl _)) ?_)); done)
variable {m t : ByteArray} (h4 : 4 ≤ n) (hline : lnB l0 = some (m, t))
include h4 hline
theorem nx5 (hh : hdrsB [] ls = none) : Tri Tryz.prog W fNext [.ptr 0 0] [(0, pO 1002 off w.length), (1002, rB1 P)] (noV 400) [(0, pO 1002 off w.length), (1002, rB1 P)] := by
  have hs1l : (w.take n).length = n := by rw [List.length_take]; omega
  have hs1 : (tB (w.take n)).size ≤ 9223372036854775807 := by rw [tB_size, hs1l]; omega
  have hs2' : (sufB (tB (w.take n)) crB2).size ≤ 8192 := Nat.le_trans (sufB_size _ _) (by rw [tB_size, hs1l]; exact h8)
  have hs2 : (sufB (tB (w.take n)) crB2).size < 4294967281 := by omega
  have hsz : ∀ x ∈ l0 :: ls, x.size ≤ 8192 := fun x hx => Nat.le_trans (splB_size (s := sufB (tB (w.take n)) crB2) (t := crB) (by rw [← hM] at hx; exact hx)) hs2'
  have hl0 : l0.size ≤ 8192 := hsz _ List.mem_cons_self
  have hls : ∀ x ∈ ls, x.size ≤ 8192 := fun x hx => hsz _ (List.mem_cons_of_mem _ hx)
  have hln : ls.length ≤ 8192 := by
    have := splB_len (sufB (tB (w.take n)) crB2) crB (by decide)
    have e : splB (sufB (tB (w.take n)) crB2) crB = l0 :: ls := hM
    rw [e, List.length_cons] at this
    omega
  have hr1 : off + n ≤ (rowV encB P).length := by rw [rB_len]; omega
  have hr2 : List.take n (List.drop off (rowV encB P)) = vmap ((tB (w.take n)).data.toList.map fun b => Value.int IntKind.u8 (b.toNat : Int)) := by rw [rowB_drop, hw, rowB_take, rowB_map, tB_data]
  have row : OW (AO.cells (vmap (List.map Value.string (splB (sufB (tB (w.take n)) crB2) (ByteArray.mk (Array.mk [13, 10]))))) tStr) (AO.cells (rowV encS (l0 :: ls)) tStr) := by
    have e : splB (sufB (tB (w.take n)) crB2) (ByteArray.mk (Array.mk [13, 10])) = l0 :: ls := hM
    rw [e]; exact ow_cells (rS_map _).symm
  have slw : Wk (AV.slice 1101 0 (List.map Value.string (splB (sufB (tB (w.take n)) crB2) (ByteArray.mk (Array.mk [13, 10])))).length 1 (Cp.lo (List.map Value.string (splB (sufB (tB (w.take n)) crB2) (ByteArray.mk (Array.mk [13, 10])))).length)) (AV.slice 1101 0 (ls.length + 1) 1 (Cp.lo (ls.length + 1))) := by
    have e : splB (sufB (tB (w.take n)) crB2) (ByteArray.mk (Array.mk [13, 10])) = l0 :: ls := hM
    rw [e, List.length_map]; exact Wk.refl _
  have g1 : ∀ d, (rowV encS (l0 :: ls)).getD 0 d = sv l0 := fun d => rfl
  have g2 : Nat.blt 0 (rowV encS (l0 :: ls)).length = true := by rw [rS_len, Nat.blt_eq]; exact Nat.succ_pos _
  have e1 : n.ble w.length = true := by rw [Nat.ble_eq]; exact hn
  have e2 : w.length.ble w.length = true := by rw [Nat.ble_eq]; exact Nat.le_refl _
  have e3 : (ls.length + 1).ble (ls.length + 1) = true := by rw [Nat.ble_eq]; exact Nat.le_refl _
  refine tri_run (con := cA P off w.length n l0 m t true) (hints := hintL (hxA false false false false ++ hxB (tB (w.take n)) (sufB (tB (w.take n)) crB2) l0 (l0 :: ls) ls.length false)) (lc := [(fNext, 11, loopN fNext 11, lNlX P off w.length (l0 :: ls) m t n ls.length)]) kNx rfl (fun F hF => con_cons (cHead_ok hW hF hw hl h) (con_cons (cTSuf_ok hF) (con_cons (cSplt_ok hW hF) (one_c (cLineY_ok hW hF hl0 hline))))) (fun F hF => one_l (lNlX_ok hW hF _ _ _ rfl hls (by omega) m t n hh)) fun F => ?_
  refine cast (congrArg (VAll _) (oNx5_eq W P (tB (w.take n)) (sufB (tB (w.take n)) crB2) l0 m t (l0 :: ls) off w.length n ls.length F).symm) ⟨⟨?_, (fit_mk (vs' := [noV 400]) (H' := [(0, pO 1002 off w.length), (1002, rB1 P)]) [(1002, 1002)] rfl rfl (VW.refl _) ⟨⟨_, rfl, pO_ow rfl rfl⟩, ⟨_, rfl, rB1_ow (by simp only [rens_rowV]) rfl⟩, trivial⟩).fits rfl⟩⟩
  simp only [Cnd.holds, rens_rowV, g1, g2, e1, e2, e3, sv, AV.strOf, Nat.blt_eq, true_and, and_true]
  and_intros
  all_goals first
    | exact hr1
    | exact hr2
    | exact hs1
    | exact hs2
    | exact row
    | exact slw
    | exact Nat.le_refl _
    | decide
    | exact wk_litE (decide_eq_true (by simp only [Int.ofNat_eq_natCast, gt_iff_lt]; omega))
    | exact wk_litE (decide_eq_false (by simp only [Int.ofNat_eq_natCast, gt_iff_lt]; omega))
    | (rw [rens_rowV]; exact OW.refl _)
    | (with_reducible exact trivial)
    | (with_reducible exact rfl)
    | (with_reducible exact Wk.refl _)
    | (with_reducible exact VW.refl _)
    | (with_reducible exact OW.refl _)
    | (with_reducible exact wk_lit _)
    | (with_reducible assumption)
    | exact rfl
    | exact Wk.refl _
    | exact VW.refl _
    | exact OW.refl _
    | ((repeat (first | exact VW.nil | refine VW.cons (Wk.refl _) ?_ | refine VW.cons (Wk.any _) ?_ | refine VW.cons (wk_cap (Nat.le_refl _)) ?_)); done)
theorem nx6 {L : Hds} (hh : hdrsB [] ls = some L) (hne : L ≠ []) (hsz0 : lenB L = none) : Tri Tryz.prog W fNext [.ptr 0 0] [(0, pO 1002 off w.length), (1002, rB1 P)] (noV 400) [(0, pO 1002 off w.length), (1002, rB1 P)] := by
  have hs1l : (w.take n).length = n := by rw [List.length_take]; omega
  have hs1 : (tB (w.take n)).size ≤ 9223372036854775807 := by rw [tB_size, hs1l]; omega
  have hs2' : (sufB (tB (w.take n)) crB2).size ≤ 8192 := Nat.le_trans (sufB_size _ _) (by rw [tB_size, hs1l]; exact h8)
  have hs2 : (sufB (tB (w.take n)) crB2).size < 4294967281 := by omega
  have hsz : ∀ x ∈ l0 :: ls, x.size ≤ 8192 := fun x hx => Nat.le_trans (splB_size (s := sufB (tB (w.take n)) crB2) (t := crB) (by rw [← hM] at hx; exact hx)) hs2'
  have hl0 : l0.size ≤ 8192 := hsz _ List.mem_cons_self
  have hls : ∀ x ∈ ls, x.size ≤ 8192 := fun x hx => hsz _ (List.mem_cons_of_mem _ hx)
  have hln : ls.length ≤ 8192 := by
    have := splB_len (sufB (tB (w.take n)) crB2) crB (by decide)
    have e : splB (sufB (tB (w.take n)) crB2) crB = l0 :: ls := hM
    rw [e, List.length_cons] at this
    omega
  have hr1 : off + n ≤ (rowV encB P).length := by rw [rB_len]; omega
  have hr2 : List.take n (List.drop off (rowV encB P)) = vmap ((tB (w.take n)).data.toList.map fun b => Value.int IntKind.u8 (b.toNat : Int)) := by rw [rowB_drop, hw, rowB_take, rowB_map, tB_data]
  have row : OW (AO.cells (vmap (List.map Value.string (splB (sufB (tB (w.take n)) crB2) (ByteArray.mk (Array.mk [13, 10]))))) tStr) (AO.cells (rowV encS (l0 :: ls)) tStr) := by
    have e : splB (sufB (tB (w.take n)) crB2) (ByteArray.mk (Array.mk [13, 10])) = l0 :: ls := hM
    rw [e]; exact ow_cells (rS_map _).symm
  have slw : Wk (AV.slice 1101 0 (List.map Value.string (splB (sufB (tB (w.take n)) crB2) (ByteArray.mk (Array.mk [13, 10])))).length 1 (Cp.lo (List.map Value.string (splB (sufB (tB (w.take n)) crB2) (ByteArray.mk (Array.mk [13, 10])))).length)) (AV.slice 1101 0 (ls.length + 1) 1 (Cp.lo (ls.length + 1))) := by
    have e : splB (sufB (tB (w.take n)) crB2) (ByteArray.mk (Array.mk [13, 10])) = l0 :: ls := hM
    rw [e, List.length_map]; exact Wk.refl _
  have g1 : ∀ d, (rowV encS (l0 :: ls)).getD 0 d = sv l0 := fun d => rfl
  have g2 : Nat.blt 0 (rowV encS (l0 :: ls)).length = true := by rw [rS_len, Nat.blt_eq]; exact Nat.succ_pos _
  have e1 : n.ble w.length = true := by rw [Nat.ble_eq]; exact hn
  have e2 : w.length.ble w.length = true := by rw [Nat.ble_eq]; exact Nat.le_refl _
  have e3 : (ls.length + 1).ble (ls.length + 1) = true := by rw [Nat.ble_eq]; exact Nat.le_refl _
  have hLl : L.length ≤ 8192 := by
    have := hdrsB_len hh
    rw [List.length_nil] at this
    omega
  refine tri_run (con := cA P off w.length n l0 m t true ++ [(fLen, cLen L m t (Int.ofNat 0) false)]) (hints := hintL (hxA false false false false ++ hxB (tB (w.take n)) (sufB (tB (w.take n)) crB2) l0 (l0 :: ls) ls.length false ++ hxC n 0 true false false)) (lc := [(fNext, 11, loopN fNext 11, lNl P off w.length (l0 :: ls) m t n ls.length L)]) kNx rfl (fun F hF => con_cons (cHead_ok hW hF hw hl h) (con_cons (cTSuf_ok hF) (con_cons (cSplt_ok hW hF) (con_cons (cLineY_ok hW hF hl0 hline) (one_c (cLen_ok hF (by omega) (by rw [hsz0]; rfl))))))) (fun F hF => one_l (lNl_ok hW hF _ _ _ rfl hls (by omega) m t n hh hne)) fun F => ?_
  refine cast (congrArg (VAll _) (oNx6_eq W P (tB (w.take n)) (sufB (tB (w.take n)) crB2) l0 m t (l0 :: ls) L off w.length n ls.length 0 F).symm) ⟨⟨?_, (fit_mk (vs' := [noV 400]) (H' := [(0, pO 1002 off w.length), (1002, rB1 P)]) [(1002, 1002)] rfl rfl (VW.refl _) ⟨⟨_, rfl, pO_ow rfl rfl⟩, ⟨_, rfl, rB1_ow (by simp only [rens_rowV]) rfl⟩, trivial⟩).fits rfl⟩⟩
  simp only [Cnd.holds, rens_rowV, g1, g2, e1, e2, e3, sv, AV.strOf, Nat.blt_eq, true_and, and_true]
  and_intros
  all_goals first
    | exact hr1
    | exact hr2
    | exact hs1
    | exact hs2
    | exact row
    | exact slw
    | exact Nat.le_refl _
    | decide
    | exact wk_litE (decide_eq_true (by simp only [Int.ofNat_eq_natCast, gt_iff_lt]; omega))
    | exact wk_litE (decide_eq_false (by simp only [Int.ofNat_eq_natCast, gt_iff_lt]; omega))
    | (rw [rens_rowV]; exact OW.refl _)
    | (with_reducible exact trivial)
    | (with_reducible exact rfl)
    | (with_reducible exact Wk.refl _)
    | (with_reducible exact VW.refl _)
    | (with_reducible exact OW.refl _)
    | (with_reducible exact wk_lit _)
    | (with_reducible assumption)
    | exact rfl
    | exact Wk.refl _
    | exact VW.refl _
    | exact OW.refl _
    | ((repeat (first | exact VW.nil | refine VW.cons (Wk.refl _) ?_ | refine VW.cons (Wk.any _) ?_ | refine VW.cons (wk_cap (Nat.le_refl _)) ?_)); done)
theorem nx7 {L : Hds} (hh : hdrsB [] ls = some L) (hne : L ≠ []) {sz : Nat} (hsz0 : lenB L = some sz) (hbig : 65536 < sz) : Tri Tryz.prog W fNext [.ptr 0 0] [(0, pO 1002 off w.length), (1002, rB1 P)] (noV 413) [(0, pO 1002 off w.length), (1002, rB1 P)] := by
  have hs1l : (w.take n).length = n := by rw [List.length_take]; omega
  have hs1 : (tB (w.take n)).size ≤ 9223372036854775807 := by rw [tB_size, hs1l]; omega
  have hs2' : (sufB (tB (w.take n)) crB2).size ≤ 8192 := Nat.le_trans (sufB_size _ _) (by rw [tB_size, hs1l]; exact h8)
  have hs2 : (sufB (tB (w.take n)) crB2).size < 4294967281 := by omega
  have hsz : ∀ x ∈ l0 :: ls, x.size ≤ 8192 := fun x hx => Nat.le_trans (splB_size (s := sufB (tB (w.take n)) crB2) (t := crB) (by rw [← hM] at hx; exact hx)) hs2'
  have hl0 : l0.size ≤ 8192 := hsz _ List.mem_cons_self
  have hls : ∀ x ∈ ls, x.size ≤ 8192 := fun x hx => hsz _ (List.mem_cons_of_mem _ hx)
  have hln : ls.length ≤ 8192 := by
    have := splB_len (sufB (tB (w.take n)) crB2) crB (by decide)
    have e : splB (sufB (tB (w.take n)) crB2) crB = l0 :: ls := hM
    rw [e, List.length_cons] at this
    omega
  have hr1 : off + n ≤ (rowV encB P).length := by rw [rB_len]; omega
  have hr2 : List.take n (List.drop off (rowV encB P)) = vmap ((tB (w.take n)).data.toList.map fun b => Value.int IntKind.u8 (b.toNat : Int)) := by rw [rowB_drop, hw, rowB_take, rowB_map, tB_data]
  have row : OW (AO.cells (vmap (List.map Value.string (splB (sufB (tB (w.take n)) crB2) (ByteArray.mk (Array.mk [13, 10]))))) tStr) (AO.cells (rowV encS (l0 :: ls)) tStr) := by
    have e : splB (sufB (tB (w.take n)) crB2) (ByteArray.mk (Array.mk [13, 10])) = l0 :: ls := hM
    rw [e]; exact ow_cells (rS_map _).symm
  have slw : Wk (AV.slice 1101 0 (List.map Value.string (splB (sufB (tB (w.take n)) crB2) (ByteArray.mk (Array.mk [13, 10])))).length 1 (Cp.lo (List.map Value.string (splB (sufB (tB (w.take n)) crB2) (ByteArray.mk (Array.mk [13, 10])))).length)) (AV.slice 1101 0 (ls.length + 1) 1 (Cp.lo (ls.length + 1))) := by
    have e : splB (sufB (tB (w.take n)) crB2) (ByteArray.mk (Array.mk [13, 10])) = l0 :: ls := hM
    rw [e, List.length_map]; exact Wk.refl _
  have g1 : ∀ d, (rowV encS (l0 :: ls)).getD 0 d = sv l0 := fun d => rfl
  have g2 : Nat.blt 0 (rowV encS (l0 :: ls)).length = true := by rw [rS_len, Nat.blt_eq]; exact Nat.succ_pos _
  have e1 : n.ble w.length = true := by rw [Nat.ble_eq]; exact hn
  have e2 : w.length.ble w.length = true := by rw [Nat.ble_eq]; exact Nat.le_refl _
  have e3 : (ls.length + 1).ble (ls.length + 1) = true := by rw [Nat.ble_eq]; exact Nat.le_refl _
  have hLl : L.length ≤ 8192 := by
    have := hdrsB_len hh
    rw [List.length_nil] at this
    omega
  refine tri_run (con := cA P off w.length n l0 m t true ++ [(fLen, cLen L m t (Int.ofNat sz) true)]) (hints := hintL (hxA false false false false ++ hxB (tB (w.take n)) (sufB (tB (w.take n)) crB2) l0 (l0 :: ls) ls.length false ++ hxC n sz false true false)) (lc := [(fNext, 11, loopN fNext 11, lNl P off w.length (l0 :: ls) m t n ls.length L)]) kNx rfl (fun F hF => con_cons (cHead_ok hW hF hw hl h) (con_cons (cTSuf_ok hF) (con_cons (cSplt_ok hW hF) (con_cons (cLineY_ok hW hF hl0 hline) (one_c (cLen_ok hF (by omega) (by rw [hsz0]; rfl))))))) (fun F hF => one_l (lNl_ok hW hF _ _ _ rfl hls (by omega) m t n hh hne)) fun F => ?_
  refine cast (congrArg (VAll _) (oNx7_eq W P (tB (w.take n)) (sufB (tB (w.take n)) crB2) l0 m t (l0 :: ls) L off w.length n ls.length sz F).symm) ⟨⟨?_, (fit_mk (vs' := [noV 413]) (H' := [(0, pO 1002 off w.length), (1002, rB1 P)]) [(1002, 1002)] rfl rfl (VW.refl _) ⟨⟨_, rfl, pO_ow rfl rfl⟩, ⟨_, rfl, rB1_ow (by simp only [rens_rowV]) rfl⟩, trivial⟩).fits rfl⟩⟩
  simp only [Cnd.holds, rens_rowV, g1, g2, e1, e2, e3, sv, AV.strOf, Nat.blt_eq, true_and, and_true]
  and_intros
  all_goals first
    | exact hr1
    | exact hr2
    | exact hs1
    | exact hs2
    | exact row
    | exact slw
    | exact Nat.le_refl _
    | decide
    | exact wk_litE (decide_eq_true (by simp only [Int.ofNat_eq_natCast, gt_iff_lt]; omega))
    | exact wk_litE (decide_eq_false (by simp only [Int.ofNat_eq_natCast, gt_iff_lt]; omega))
    | (rw [rens_rowV]; exact OW.refl _)
    | (with_reducible exact trivial)
    | (with_reducible exact rfl)
    | (with_reducible exact Wk.refl _)
    | (with_reducible exact VW.refl _)
    | (with_reducible exact OW.refl _)
    | (with_reducible exact wk_lit _)
    | (with_reducible assumption)
    | exact rfl
    | exact Wk.refl _
    | exact VW.refl _
    | exact OW.refl _
    | ((repeat (first | exact VW.nil | refine VW.cons (Wk.refl _) ?_ | refine VW.cons (Wk.any _) ?_ | refine VW.cons (wk_cap (Nat.le_refl _)) ?_)); done)
theorem nx8 {L : Hds} (hh : hdrsB [] ls = some L) (hne : L ≠ []) {sz : Nat} (hsz0 : lenB L = some sz) (hbig : sz ≤ 65536) (hsh : w.length - n < sz) : Tri Tryz.prog W fNext [.ptr 0 0] [(0, pO 1002 off w.length), (1002, rB1 P)] (noV 0) [(0, pO 1002 off w.length), (1002, rB1 P)] := by
  have hs1l : (w.take n).length = n := by rw [List.length_take]; omega
  have hs1 : (tB (w.take n)).size ≤ 9223372036854775807 := by rw [tB_size, hs1l]; omega
  have hs2' : (sufB (tB (w.take n)) crB2).size ≤ 8192 := Nat.le_trans (sufB_size _ _) (by rw [tB_size, hs1l]; exact h8)
  have hs2 : (sufB (tB (w.take n)) crB2).size < 4294967281 := by omega
  have hsz : ∀ x ∈ l0 :: ls, x.size ≤ 8192 := fun x hx => Nat.le_trans (splB_size (s := sufB (tB (w.take n)) crB2) (t := crB) (by rw [← hM] at hx; exact hx)) hs2'
  have hl0 : l0.size ≤ 8192 := hsz _ List.mem_cons_self
  have hls : ∀ x ∈ ls, x.size ≤ 8192 := fun x hx => hsz _ (List.mem_cons_of_mem _ hx)
  have hln : ls.length ≤ 8192 := by
    have := splB_len (sufB (tB (w.take n)) crB2) crB (by decide)
    have e : splB (sufB (tB (w.take n)) crB2) crB = l0 :: ls := hM
    rw [e, List.length_cons] at this
    omega
  have hr1 : off + n ≤ (rowV encB P).length := by rw [rB_len]; omega
  have hr2 : List.take n (List.drop off (rowV encB P)) = vmap ((tB (w.take n)).data.toList.map fun b => Value.int IntKind.u8 (b.toNat : Int)) := by rw [rowB_drop, hw, rowB_take, rowB_map, tB_data]
  have row : OW (AO.cells (vmap (List.map Value.string (splB (sufB (tB (w.take n)) crB2) (ByteArray.mk (Array.mk [13, 10]))))) tStr) (AO.cells (rowV encS (l0 :: ls)) tStr) := by
    have e : splB (sufB (tB (w.take n)) crB2) (ByteArray.mk (Array.mk [13, 10])) = l0 :: ls := hM
    rw [e]; exact ow_cells (rS_map _).symm
  have slw : Wk (AV.slice 1101 0 (List.map Value.string (splB (sufB (tB (w.take n)) crB2) (ByteArray.mk (Array.mk [13, 10])))).length 1 (Cp.lo (List.map Value.string (splB (sufB (tB (w.take n)) crB2) (ByteArray.mk (Array.mk [13, 10])))).length)) (AV.slice 1101 0 (ls.length + 1) 1 (Cp.lo (ls.length + 1))) := by
    have e : splB (sufB (tB (w.take n)) crB2) (ByteArray.mk (Array.mk [13, 10])) = l0 :: ls := hM
    rw [e, List.length_map]; exact Wk.refl _
  have g1 : ∀ d, (rowV encS (l0 :: ls)).getD 0 d = sv l0 := fun d => rfl
  have g2 : Nat.blt 0 (rowV encS (l0 :: ls)).length = true := by rw [rS_len, Nat.blt_eq]; exact Nat.succ_pos _
  have e1 : n.ble w.length = true := by rw [Nat.ble_eq]; exact hn
  have e2 : w.length.ble w.length = true := by rw [Nat.ble_eq]; exact Nat.le_refl _
  have e3 : (ls.length + 1).ble (ls.length + 1) = true := by rw [Nat.ble_eq]; exact Nat.le_refl _
  have hLl : L.length ≤ 8192 := by
    have := hdrsB_len hh
    rw [List.length_nil] at this
    omega
  have hwr := wrap_sub hn (by omega)
  refine tri_run (con := cA P off w.length n l0 m t true ++ [(fLen, cLen L m t (Int.ofNat sz) true)]) (hints := hintL (hxA false false false false ++ hxB (tB (w.take n)) (sufB (tB (w.take n)) crB2) l0 (l0 :: ls) ls.length false ++ hxC n sz false false true)) (lc := [(fNext, 11, loopN fNext 11, lNl P off w.length (l0 :: ls) m t n ls.length L)]) kNx rfl (fun F hF => con_cons (cHead_ok hW hF hw hl h) (con_cons (cTSuf_ok hF) (con_cons (cSplt_ok hW hF) (con_cons (cLineY_ok hW hF hl0 hline) (one_c (cLen_ok hF (by omega) (by rw [hsz0]; rfl))))))) (fun F hF => one_l (lNl_ok hW hF _ _ _ rfl hls (by omega) m t n hh hne)) fun F => ?_
  refine cast (congrArg (VAll _) (oNx8_eq W P (tB (w.take n)) (sufB (tB (w.take n)) crB2) l0 m t (l0 :: ls) L off w.length n ls.length sz F).symm) ⟨⟨?_, (fit_mk (vs' := [noV 0]) (H' := [(0, pO 1002 off w.length), (1002, rB1 P)]) [(1002, 1002)] rfl rfl (VW.refl _) ⟨⟨_, rfl, pO_ow rfl rfl⟩, ⟨_, rfl, rB1_ow (by simp only [rens_rowV]) rfl⟩, trivial⟩).fits rfl⟩⟩
  simp only [Cnd.holds, rens_rowV, g1, g2, e1, e2, e3, sv, AV.strOf, hwr, Nat.blt_eq, true_and, and_true]
  and_intros
  all_goals first
    | exact hr1
    | exact hr2
    | exact hs1
    | exact hs2
    | exact row
    | exact slw
    | exact Nat.le_refl _
    | decide
    | exact wk_litE (decide_eq_true (by simp only [Int.ofNat_eq_natCast, gt_iff_lt]; omega))
    | exact wk_litE (decide_eq_false (by simp only [Int.ofNat_eq_natCast, gt_iff_lt]; omega))
    | (rw [rens_rowV]; exact OW.refl _)
    | (with_reducible exact trivial)
    | (with_reducible exact rfl)
    | (with_reducible exact Wk.refl _)
    | (with_reducible exact VW.refl _)
    | (with_reducible exact OW.refl _)
    | (with_reducible exact wk_lit _)
    | (with_reducible assumption)
    | exact rfl
    | exact Wk.refl _
    | exact VW.refl _
    | exact OW.refl _
    | ((repeat (first | exact VW.nil | refine VW.cons (Wk.refl _) ?_ | refine VW.cons (Wk.any _) ?_ | refine VW.cons (wk_cap (Nat.le_refl _)) ?_)); done)
theorem nx9r {L : Hds} (hh : hdrsB [] ls = some L) (hne : L ≠ []) {sz : Nat} (hsz0 : lenB L = some sz) (hbig : sz ≤ 65536) (hsh : sz ≤ w.length - n) (h0 : 0 < sz) : Tri Tryz.prog W fNext [.ptr 0 0] [(0, pO 1002 off w.length), (1002, rB1 P)] (.tuple [rqV m t (sP 1000 L.length) (sB 1001 sz), bv true, iv (Int.ofNat 0)]) [(0, pO 1002 (off + (n + sz)) (w.length - (n + sz))), (1002, rB1 P), (1000, rP L), (1001, rB ((w.drop n).take sz))] := by
  have hs1l : (w.take n).length = n := by rw [List.length_take]; omega
  have hs1 : (tB (w.take n)).size ≤ 9223372036854775807 := by rw [tB_size, hs1l]; omega
  have hs2' : (sufB (tB (w.take n)) crB2).size ≤ 8192 := Nat.le_trans (sufB_size _ _) (by rw [tB_size, hs1l]; exact h8)
  have hs2 : (sufB (tB (w.take n)) crB2).size < 4294967281 := by omega
  have hsz : ∀ x ∈ l0 :: ls, x.size ≤ 8192 := fun x hx => Nat.le_trans (splB_size (s := sufB (tB (w.take n)) crB2) (t := crB) (by rw [← hM] at hx; exact hx)) hs2'
  have hl0 : l0.size ≤ 8192 := hsz _ List.mem_cons_self
  have hls : ∀ x ∈ ls, x.size ≤ 8192 := fun x hx => hsz _ (List.mem_cons_of_mem _ hx)
  have hln : ls.length ≤ 8192 := by
    have := splB_len (sufB (tB (w.take n)) crB2) crB (by decide)
    have e : splB (sufB (tB (w.take n)) crB2) crB = l0 :: ls := hM
    rw [e, List.length_cons] at this
    omega
  have hr1 : off + n ≤ (rowV encB P).length := by rw [rB_len]; omega
  have hr2 : List.take n (List.drop off (rowV encB P)) = vmap ((tB (w.take n)).data.toList.map fun b => Value.int IntKind.u8 (b.toNat : Int)) := by rw [rowB_drop, hw, rowB_take, rowB_map, tB_data]
  have row : OW (AO.cells (vmap (List.map Value.string (splB (sufB (tB (w.take n)) crB2) (ByteArray.mk (Array.mk [13, 10]))))) tStr) (AO.cells (rowV encS (l0 :: ls)) tStr) := by
    have e : splB (sufB (tB (w.take n)) crB2) (ByteArray.mk (Array.mk [13, 10])) = l0 :: ls := hM
    rw [e]; exact ow_cells (rS_map _).symm
  have slw : Wk (AV.slice 1101 0 (List.map Value.string (splB (sufB (tB (w.take n)) crB2) (ByteArray.mk (Array.mk [13, 10])))).length 1 (Cp.lo (List.map Value.string (splB (sufB (tB (w.take n)) crB2) (ByteArray.mk (Array.mk [13, 10])))).length)) (AV.slice 1101 0 (ls.length + 1) 1 (Cp.lo (ls.length + 1))) := by
    have e : splB (sufB (tB (w.take n)) crB2) (ByteArray.mk (Array.mk [13, 10])) = l0 :: ls := hM
    rw [e, List.length_map]; exact Wk.refl _
  have g1 : ∀ d, (rowV encS (l0 :: ls)).getD 0 d = sv l0 := fun d => rfl
  have g2 : Nat.blt 0 (rowV encS (l0 :: ls)).length = true := by rw [rS_len, Nat.blt_eq]; exact Nat.succ_pos _
  have e1 : n.ble w.length = true := by rw [Nat.ble_eq]; exact hn
  have e2 : w.length.ble w.length = true := by rw [Nat.ble_eq]; exact Nat.le_refl _
  have e3 : (ls.length + 1).ble (ls.length + 1) = true := by rw [Nat.ble_eq]; exact Nat.le_refl _
  have hLl : L.length ≤ 8192 := by
    have := hdrsB_len hh
    rw [List.length_nil] at this
    omega
  have hwr := wrap_sub hn (by omega)
  have hwa := wrap_nat (a := n) (b := sz) (by omega)
  have eZ : n + sz - n = sz := by omega
  have e6 : sz.ble sz = true := by rw [Nat.ble_eq]; exact Nat.le_refl _
  have hB : List.take sz (List.drop (off + n) (rowV encB P)) = rowV encB ((w.drop n).take sz) := by
    rw [rowB_drop, rowB_take, ← hw, List.drop_drop]
  have hBl : (rowV encB ((w.drop n).take sz)).length.beq sz = true := by
    rw [rB_len, List.length_take, List.length_drop, Nat.min_eq_left hsh]
    exact Nat.beq_refl _
  have hB1 : (rowV encB ((w.drop n).take sz)).all AV.one = true := one_rowV (fun _ => rfl) _
  have b0 : Nat.blt 0 sz = true := by rw [Nat.blt_eq]; exact h0
  have b1 : sz.ble 140737488355328 = true := ble_of (by omega)
  have b2 : sz.ble 9223372036854775807 = true := ble_of (by omega)
  have e4 : n.ble (n + sz) = true := by rw [Nat.ble_eq]; omega
  have e5 : (n + sz).ble w.length = true := by rw [Nat.ble_eq]; omega
  refine tri_run (con := cA P off w.length n l0 m t true ++ [(fLen, cLen L m t (Int.ofNat sz) true)]) (hints := hintL (hxA false false false false ++ hxB (tB (w.take n)) (sufB (tB (w.take n)) crB2) l0 (l0 :: ls) ls.length false ++ hxC n sz false false false ++ [(fClone, 1, 1, hv (.lit false)), (fClone, 3, 2, hvo (sB 1104 sz) 1104 (rB ((w.drop n).take sz)))])) (lc := [(fNext, 11, loopN fNext 11, lNl P off w.length (l0 :: ls) m t n ls.length L)]) kNx rfl (fun F hF => con_cons (cHead_ok hW hF hw hl h) (con_cons (cTSuf_ok hF) (con_cons (cSplt_ok hW hF) (con_cons (cLineY_ok hW hF hl0 hline) (one_c (cLen_ok hF (by omega) (by rw [hsz0]; rfl))))))) (fun F hF => one_l (lNl_ok hW hF _ _ _ rfl hls (by omega) m t n hh hne)) fun F => ?_
  refine cast (congrArg (VAll _) (oNx9R_eq W P (tB (w.take n)) (sufB (tB (w.take n)) crB2) l0 m t (l0 :: ls) L off w.length n ls.length sz ((w.drop n).take sz) F).symm) ⟨⟨?_, (fit_mk (vs' := [.tuple [rqV m t (sP 1000 L.length) (sB 1001 sz), bv true, iv (Int.ofNat 0)]]) (H' := [(0, pO 1002 (off + (n + sz)) (w.length - (n + sz))), (1002, rB1 P), (1000, rP L), (1001, rB ((w.drop n).take sz))]) [(1002, 1002), (1000, 1102), (1001, 1104)] rfl rfl (VW.refl _) ⟨⟨_, rfl, by rw [Nat.mul_one]; exact pO_ow rfl rfl⟩, ⟨_, rfl, rB1_ow (by simp only [rens_rowV]) rfl⟩, ⟨_, rfl, rP_ow (by simp only [rens_rowV]) rfl⟩, ⟨_, rfl, rB_ow rfl rfl⟩, trivial⟩).fits rfl⟩⟩
  simp only [Cnd.holds, rens_rowV, g1, g2, e1, e2, e3, sv, AV.strOf, hwr, hwa, e4, e5, eZ, e6, Nat.zero_add, Nat.mul_one, hB, hBl, hB1, b0, b1, b2, List.nil_append, Nat.blt_eq, true_and, and_true]
  and_intros
  all_goals first
    | exact hr1
    | exact hr2
    | exact hs1
    | exact hs2
    | exact row
    | exact slw
    | exact Nat.le_refl _
    | decide
    | exact wk_litE (decide_eq_true (by simp only [Int.ofNat_eq_natCast, gt_iff_lt]; omega))
    | exact wk_litE (decide_eq_false (by simp only [Int.ofNat_eq_natCast, gt_iff_lt]; omega))
    | (rw [rens_rowV]; exact OW.refl _)
    | (with_reducible exact trivial)
    | (with_reducible exact rfl)
    | (with_reducible exact Wk.refl _)
    | (with_reducible exact VW.refl _)
    | (with_reducible exact OW.refl _)
    | (with_reducible exact wk_lit _)
    | (with_reducible assumption)
    | exact rfl
    | exact Wk.refl _
    | exact VW.refl _
    | exact OW.refl _
    | ((repeat (first | exact VW.nil | refine VW.cons (Wk.refl _) ?_ | refine VW.cons (Wk.any _) ?_ | refine VW.cons (wk_cap (Nat.le_refl _)) ?_)); done)
theorem nx9e {L : Hds} (hh : hdrsB [] ls = some L) (hne : L ≠ []) (hsz0 : lenB L = some 0) : Tri Tryz.prog W fNext [.ptr 0 0] [(0, pO 1002 off w.length), (1002, rB1 P)] (.tuple [rqV m t (sP 1000 L.length) (sB 1001 0), bv true, iv (Int.ofNat 0)]) [(0, pO 1002 (off + n) (w.length - n)), (1002, rB1 P), (1000, rP L), (1001, rB [])] := by
  have hs1l : (w.take n).length = n := by rw [List.length_take]; omega
  have hs1 : (tB (w.take n)).size ≤ 9223372036854775807 := by rw [tB_size, hs1l]; omega
  have hs2' : (sufB (tB (w.take n)) crB2).size ≤ 8192 := Nat.le_trans (sufB_size _ _) (by rw [tB_size, hs1l]; exact h8)
  have hs2 : (sufB (tB (w.take n)) crB2).size < 4294967281 := by omega
  have hsz : ∀ x ∈ l0 :: ls, x.size ≤ 8192 := fun x hx => Nat.le_trans (splB_size (s := sufB (tB (w.take n)) crB2) (t := crB) (by rw [← hM] at hx; exact hx)) hs2'
  have hl0 : l0.size ≤ 8192 := hsz _ List.mem_cons_self
  have hls : ∀ x ∈ ls, x.size ≤ 8192 := fun x hx => hsz _ (List.mem_cons_of_mem _ hx)
  have hln : ls.length ≤ 8192 := by
    have := splB_len (sufB (tB (w.take n)) crB2) crB (by decide)
    have e : splB (sufB (tB (w.take n)) crB2) crB = l0 :: ls := hM
    rw [e, List.length_cons] at this
    omega
  have hr1 : off + n ≤ (rowV encB P).length := by rw [rB_len]; omega
  have hr2 : List.take n (List.drop off (rowV encB P)) = vmap ((tB (w.take n)).data.toList.map fun b => Value.int IntKind.u8 (b.toNat : Int)) := by rw [rowB_drop, hw, rowB_take, rowB_map, tB_data]
  have row : OW (AO.cells (vmap (List.map Value.string (splB (sufB (tB (w.take n)) crB2) (ByteArray.mk (Array.mk [13, 10]))))) tStr) (AO.cells (rowV encS (l0 :: ls)) tStr) := by
    have e : splB (sufB (tB (w.take n)) crB2) (ByteArray.mk (Array.mk [13, 10])) = l0 :: ls := hM
    rw [e]; exact ow_cells (rS_map _).symm
  have slw : Wk (AV.slice 1101 0 (List.map Value.string (splB (sufB (tB (w.take n)) crB2) (ByteArray.mk (Array.mk [13, 10])))).length 1 (Cp.lo (List.map Value.string (splB (sufB (tB (w.take n)) crB2) (ByteArray.mk (Array.mk [13, 10])))).length)) (AV.slice 1101 0 (ls.length + 1) 1 (Cp.lo (ls.length + 1))) := by
    have e : splB (sufB (tB (w.take n)) crB2) (ByteArray.mk (Array.mk [13, 10])) = l0 :: ls := hM
    rw [e, List.length_map]; exact Wk.refl _
  have g1 : ∀ d, (rowV encS (l0 :: ls)).getD 0 d = sv l0 := fun d => rfl
  have g2 : Nat.blt 0 (rowV encS (l0 :: ls)).length = true := by rw [rS_len, Nat.blt_eq]; exact Nat.succ_pos _
  have e1 : n.ble w.length = true := by rw [Nat.ble_eq]; exact hn
  have e2 : w.length.ble w.length = true := by rw [Nat.ble_eq]; exact Nat.le_refl _
  have e3 : (ls.length + 1).ble (ls.length + 1) = true := by rw [Nat.ble_eq]; exact Nat.le_refl _
  have hLl : L.length ≤ 8192 := by
    have := hdrsB_len hh
    rw [List.length_nil] at this
    omega
  have hwr := wrap_sub hn (by omega)
  have hwa := wrap_nat (a := n) (b := 0) (by omega)
  have e4 : n.ble n = true := by rw [Nat.ble_eq]; exact Nat.le_refl _
  have yw : VW [AV.tuple [AV.agg [sv m, sv t, AV.slice 1102 0 L.length 2 (Cp.lo L.length), AV.slice 1103 0 0 1 (Cp.ex 0)], bv true, iv (Int.ofNat 0)]] [AV.tuple [AV.agg [sv m, sv t, AV.slice 1102 0 L.length 2 (Cp.lo L.length), AV.slice 1103 0 0 1 (Cp.lo 0)], bv true, iv (Int.ofNat 0)]] := VW.cons (wk_tup (VW.cons (wk_agg (VW.cons (Wk.refl _) (VW.cons (Wk.refl _) (VW.cons (Wk.refl _) (VW.cons (wk_cap (Nat.le_refl _)) VW.nil))))) (VW.cons (Wk.refl _) (VW.cons (Wk.refl _) VW.nil)))) VW.nil
  refine tri_run (con := cA P off w.length n l0 m t true ++ [(fLen, cLen L m t (Int.ofNat 0) true)]) (hints := hintL (hxA false false false false ++ hxB (tB (w.take n)) (sufB (tB (w.take n)) crB2) l0 (l0 :: ls) ls.length false ++ hxC n 0 false false false ++ [(fClone, 1, 1, hv (.lit false)), (fClone, 3, 2, h0)])) (lc := [(fNext, 11, loopN fNext 11, lNl P off w.length (l0 :: ls) m t n ls.length L)]) kNx rfl (fun F hF => con_cons (cHead_ok hW hF hw hl h) (con_cons (cTSuf_ok hF) (con_cons (cSplt_ok hW hF) (con_cons (cLineY_ok hW hF hl0 hline) (one_c (cLen_ok hF (by omega) (by rw [hsz0]; rfl))))))) (fun F hF => one_l (lNl_ok hW hF _ _ _ rfl hls (by omega) m t n hh hne)) fun F => ?_
  refine cast (congrArg (VAll _) (oNx9E_eq W P (tB (w.take n)) (sufB (tB (w.take n)) crB2) l0 m t (l0 :: ls) L off w.length n ls.length 0 F).symm) ⟨⟨?_, (fit_mk (vs' := [.tuple [rqV m t (sP 1000 L.length) (sB 1001 0), bv true, iv (Int.ofNat 0)]]) (H' := [(0, pO 1002 (off + n) (w.length - n)), (1002, rB1 P), (1000, rP L), (1001, rB [])]) [(1002, 1002), (1000, 1102), (1001, 1103)] rfl rfl (yw) ⟨⟨_, rfl, by rw [Nat.mul_one]; exact pO_ow rfl rfl⟩, ⟨_, rfl, rB1_ow (by simp only [rens_rowV]) rfl⟩, ⟨_, rfl, rP_ow (by simp only [rens_rowV]) rfl⟩, ⟨_, rfl, rB_ow rfl rfl⟩, trivial⟩).fits rfl⟩⟩
  simp only [Cnd.holds, rens_rowV, g1, g2, e1, e2, e3, sv, AV.strOf, hwr, e4, Nat.sub_self, Nat.blt_eq, true_and, and_true]
  and_intros
  all_goals first
    | exact wk_int hwa
    | exact hr1
    | exact hr2
    | exact hs1
    | exact hs2
    | exact row
    | exact slw
    | exact Nat.le_refl _
    | decide
    | exact wk_litE (decide_eq_true (by simp only [Int.ofNat_eq_natCast, gt_iff_lt]; omega))
    | exact wk_litE (decide_eq_false (by simp only [Int.ofNat_eq_natCast, gt_iff_lt]; omega))
    | (rw [rens_rowV]; exact OW.refl _)
    | (with_reducible exact trivial)
    | (with_reducible exact rfl)
    | (with_reducible exact Wk.refl _)
    | (with_reducible exact VW.refl _)
    | (with_reducible exact OW.refl _)
    | (with_reducible exact wk_lit _)
    | (with_reducible assumption)
    | exact rfl
    | exact Wk.refl _
    | exact VW.refl _
    | exact OW.refl _
    | ((repeat (first | exact VW.nil | refine VW.cons (Wk.refl _) ?_ | refine VW.cons (Wk.any _) ?_ | refine VW.cons (wk_cap (Nat.le_refl _)) ?_)); done)
theorem nx9z (hh : ls = []) : Tri Tryz.prog W fNext [.ptr 0 0] [(0, pO 1002 off w.length), (1002, rB1 P)] (.tuple [rqV m t nilP (sB 1001 0), bv true, iv (Int.ofNat 0)]) [(0, pO 1002 (off + n) (w.length - n)), (1002, rB1 P), (1001, rB [])] := by
  have hs1l : (w.take n).length = n := by rw [List.length_take]; omega
  have hs1 : (tB (w.take n)).size ≤ 9223372036854775807 := by rw [tB_size, hs1l]; omega
  have hs2' : (sufB (tB (w.take n)) crB2).size ≤ 8192 := Nat.le_trans (sufB_size _ _) (by rw [tB_size, hs1l]; exact h8)
  have hs2 : (sufB (tB (w.take n)) crB2).size < 4294967281 := by omega
  have hsz : ∀ x ∈ l0 :: ls, x.size ≤ 8192 := fun x hx => Nat.le_trans (splB_size (s := sufB (tB (w.take n)) crB2) (t := crB) (by rw [← hM] at hx; exact hx)) hs2'
  have hl0 : l0.size ≤ 8192 := hsz _ List.mem_cons_self
  have hls : ∀ x ∈ ls, x.size ≤ 8192 := fun x hx => hsz _ (List.mem_cons_of_mem _ hx)
  have hln : ls.length ≤ 8192 := by
    have := splB_len (sufB (tB (w.take n)) crB2) crB (by decide)
    have e : splB (sufB (tB (w.take n)) crB2) crB = l0 :: ls := hM
    rw [e, List.length_cons] at this
    omega
  have hr1 : off + n ≤ (rowV encB P).length := by rw [rB_len]; omega
  have hr2 : List.take n (List.drop off (rowV encB P)) = vmap ((tB (w.take n)).data.toList.map fun b => Value.int IntKind.u8 (b.toNat : Int)) := by rw [rowB_drop, hw, rowB_take, rowB_map, tB_data]
  have row : OW (AO.cells (vmap (List.map Value.string (splB (sufB (tB (w.take n)) crB2) (ByteArray.mk (Array.mk [13, 10]))))) tStr) (AO.cells (rowV encS (l0 :: ls)) tStr) := by
    have e : splB (sufB (tB (w.take n)) crB2) (ByteArray.mk (Array.mk [13, 10])) = l0 :: ls := hM
    rw [e]; exact ow_cells (rS_map _).symm
  have slw : Wk (AV.slice 1101 0 (List.map Value.string (splB (sufB (tB (w.take n)) crB2) (ByteArray.mk (Array.mk [13, 10])))).length 1 (Cp.lo (List.map Value.string (splB (sufB (tB (w.take n)) crB2) (ByteArray.mk (Array.mk [13, 10])))).length)) (AV.slice 1101 0 (ls.length + 1) 1 (Cp.lo (ls.length + 1))) := by
    have e : splB (sufB (tB (w.take n)) crB2) (ByteArray.mk (Array.mk [13, 10])) = l0 :: ls := hM
    rw [e, List.length_map]; exact Wk.refl _
  have g1 : ∀ d, (rowV encS (l0 :: ls)).getD 0 d = sv l0 := fun d => rfl
  have g2 : Nat.blt 0 (rowV encS (l0 :: ls)).length = true := by rw [rS_len, Nat.blt_eq]; exact Nat.succ_pos _
  have e1 : n.ble w.length = true := by rw [Nat.ble_eq]; exact hn
  have e2 : w.length.ble w.length = true := by rw [Nat.ble_eq]; exact Nat.le_refl _
  have e3 : (ls.length + 1).ble (ls.length + 1) = true := by rw [Nat.ble_eq]; exact Nat.le_refl _
  subst hh
  have hwr := wrap_sub hn (by omega)
  have hwa := wrap_nat (a := n) (b := 0) (by omega)
  have e4 : n.ble n = true := by rw [Nat.ble_eq]; exact Nat.le_refl _
  have yw : VW [AV.tuple [AV.agg [sv m, sv t, nilP, AV.slice 1102 0 0 1 (Cp.ex 0)], bv true, iv (Int.ofNat 0)]] [AV.tuple [AV.agg [sv m, sv t, nilP, AV.slice 1102 0 0 1 (Cp.lo 0)], bv true, iv (Int.ofNat 0)]] := VW.cons (wk_tup (VW.cons (wk_agg (VW.cons (Wk.refl _) (VW.cons (Wk.refl _) (VW.cons (Wk.refl _) (VW.cons (wk_cap (Nat.le_refl _)) VW.nil))))) (VW.cons (Wk.refl _) (VW.cons (Wk.refl _) VW.nil)))) VW.nil
  refine tri_run (con := cA P off w.length n l0 m t true ++ [(fLen, cLen0 m t)]) (hints := hintL (hxA false false false false ++ hxB (tB (w.take n)) (sufB (tB (w.take n)) crB2) l0 [l0] 0 false ++ hxC n 0 false false false ++ [(fClone, 1, 1, hv (.lit false)), (fClone, 3, 2, h0)])) (lc := [(fNext, 11, loopN fNext 11, lNlZ P off w.length [l0] m t n 0)]) kNx rfl (fun F hF => con_cons (cHead_ok hW hF hw hl h) (con_cons (cTSuf_ok hF) (con_cons (cSplt_ok hW hF) (con_cons (cLineY_ok hW hF hl0 hline) (one_c (cLen0_ok hF)))))) (fun F hF => one_l (lNlZ_ok hF P off w.length [l0] m t n)) fun F => ?_
  refine cast (congrArg (VAll _) (oNx9Z_eq W P (tB (w.take n)) (sufB (tB (w.take n)) crB2) l0 m t [l0] [] off w.length n 0 0 F).symm) ⟨⟨?_, (fit_mk (vs' := [.tuple [rqV m t nilP (sB 1001 0), bv true, iv (Int.ofNat 0)]]) (H' := [(0, pO 1002 (off + n) (w.length - n)), (1002, rB1 P), (1001, rB [])]) [(1002, 1002), (1001, 1102)] rfl rfl (yw) ⟨⟨_, rfl, by rw [Nat.mul_one]; exact pO_ow rfl rfl⟩, ⟨_, rfl, rB1_ow (by simp only [rens_rowV]) rfl⟩, ⟨_, rfl, rB_ow rfl rfl⟩, trivial⟩).fits rfl⟩⟩
  simp only [Cnd.holds, rens_rowV, g1, g2, e1, e2, e3, sv, AV.strOf, hwr, e4, Nat.sub_self, Nat.blt_eq, true_and, and_true]
  and_intros
  all_goals first
    | exact wk_int hwa
    | exact hr1
    | exact hr2
    | exact hs1
    | exact hs2
    | exact row
    | exact slw
    | exact Nat.le_refl _
    | decide
    | exact wk_litE (decide_eq_true (by simp only [Int.ofNat_eq_natCast, gt_iff_lt]; omega))
    | exact wk_litE (decide_eq_false (by simp only [Int.ofNat_eq_natCast, gt_iff_lt]; omega))
    | (rw [rens_rowV]; exact OW.refl _)
    | (with_reducible exact trivial)
    | (with_reducible exact rfl)
    | (with_reducible exact Wk.refl _)
    | (with_reducible exact VW.refl _)
    | (with_reducible exact OW.refl _)
    | (with_reducible exact wk_lit _)
    | (with_reducible assumption)
    | exact rfl
    | exact Wk.refl _
    | exact VW.refl _
    | exact OW.refl _
    | ((repeat (first | exact VW.nil | refine VW.cons (Wk.refl _) ?_ | refine VW.cons (Wk.any _) ?_ | refine VW.cons (wk_cap (Nat.le_refl _)) ?_)); done)
end
end Go.Proofs.YtpijbbobejeemaaGreatDoor.Htp

/- Http: Next, whole. -/
set_option linter.unusedVariables false
set_option linter.unusedSimpArgs false
set_option maxRecDepth 100000
namespace Go.Proofs.YtpijbbobejeemaaGreatDoor.Htp
open Go Go.RowKit Go.Proofs.YtpijbbobejeemaaGreatDoor.Eng Go.Proofs.YtpijbbobejeemaaGreatDoor.Kit
theorem lines_two : linesB [13, 10] = [nil0, nil0] := by kernel_rfl
theorem line_nil : lnB nil0 = none := by kernel_rfl
theorem hdN_two {w : List UInt8} {n : Nat} (h : hdN w = some n) : (n = 2 ∧ w.take n = [13, 10]) ∨ 4 ≤ n := by
  unfold hdN at h
  split at h
  · rename_i hp
    cases h
    obtain ⟨r, hr⟩ := List.isPrefixOf_iff_prefix.1 hp
    refine .inl ⟨rfl, ?_⟩
    rw [← hr]
    rfl
  · cases hf : f4 w with
    | none => rw [hf] at h; cases h
    | some k =>
      rw [hf] at h
      have h : k + 4 = n := Option.some.inj h
      exact .inr (by omega)
theorem linesB_cons (w : List UInt8) : ∃ l0 ls, linesB w = l0 :: ls := by
  have := splB_pos (sufB (tB w) crB2) crB (by decide)
  cases h : linesB w with
  | nil => unfold linesB at h; rw [h] at this; exact absurd this (Nat.lt_irrefl _)
  | cons a b => exact ⟨a, b, rfl⟩
theorem hdrsB_nil {ls : List ByteArray} (h : hdrsB [] ls = some []) : ls = [] := by
  have := hdrsB_len h
  simp only [List.length_nil, Nat.zero_add] at this
  exact List.eq_nil_of_length_eq_zero this.symm
def hsH (L : Hds) (B : List UInt8) : LH := match L with
  | [] => [(1001, rB B)]
  | x :: r => [(1000, rP (x :: r)), (1001, rB B)]
section
variable {W : World} (hW : LW W) {P w : List UInt8} {off : Nat} (hw : P.drop off = w) (hl : w.length ≤ 4000000) (hoff : off + w.length = P.length)
include hW hw hl hoff
theorem nx_no {s : Nat} (h : nextL hdB w = .no s) : Tri Tryz.prog W fNext [.ptr 0 0] [(0, pO 1002 off w.length), (1002, rB1 P)] (noV s) [(0, pO 1002 off w.length), (1002, rB1 P)] := by
  unfold nextL at h
  cases hn : hdN w with
  | none =>
    have hz : headZ w = 3 := by unfold headZ; rw [hn]
    rw [hn] at h
    simp only at h
    split at h
    · rename_i h8
      cases h
      exact nx1 hW hw hl hz h8
    · rename_i h8
      cases h
      exact nx2 hW hw hl hz h8
  | some n =>
    have hz : headZ w = Int.ofNat n := by unfold headZ; rw [hn]; rfl
    obtain ⟨n2, nw⟩ := hdN_len hn
    rw [hn] at h
    simp only at h
    split at h
    · rename_i h8
      cases h
      exact nx3 hW hw hl hz h8
    · rename_i h8
      have h8 : n ≤ 8192 := Nat.le_of_not_lt h8
      obtain ⟨l0, ls, hM⟩ := linesB_cons (w.take n)
      have hh : hdB (w.take n) = hdL (l0 :: ls) := by unfold hdB; rw [hM]
      rw [hh] at h
      unfold hdL at h
      simp only at h
      cases hline : lnB l0 with
      | none =>
        rw [hline] at h
        cases h
        rcases hdN_two hn with ⟨e, _⟩ | h4
        · exact nx4b hW hw hl hz nw h8 hoff hM e hline
        · exact nx4 hW hw hl hz nw h8 hoff hM h4 hline
      | some p =>
        obtain ⟨m, t⟩ := p
        have h4 : 4 ≤ n := by
          rcases hdN_two hn with ⟨e, e2⟩ | h4
          · rw [e2, lines_two] at hM
            obtain rfl := (List.cons.inj hM).1
            rw [line_nil] at hline
            cases hline
          · exact h4
        rw [hline] at h
        simp only at h
        cases hd : hdrsB [] ls with
        | none =>
          rw [hd] at h
          cases h
          exact nx5 hW hw hl hz nw h8 hoff hM h4 hline hd
        | some L =>
          rw [hd] at h
          simp only at h
          have hne : lenB L ≠ some 0 → L ≠ [] := fun h e => h (by rw [e]; rfl)
          cases hL : lenB L with
          | none =>
            rw [hL] at h
            cases h
            exact nx6 hW hw hl hz nw h8 hoff hM h4 hline hd (hne (by rw [hL]; intro e; cases e)) hL
          | some sz =>
            rw [hL] at h
            simp only at h
            by_cases hb : 65536 < sz
            · rw [if_pos hb] at h
              cases h
              exact nx7 hW hw hl hz nw h8 hoff hM h4 hline hd (hne (by rw [hL]; intro e; cases e; omega)) hL hb
            · rw [if_neg hb] at h
              simp only at h
              split at h
              · rename_i hs
                cases h
                exact nx8 hW hw hl hz nw h8 hoff hM h4 hline hd (hne (by rw [hL]; intro e; cases e; omega)) hL (Nat.le_of_not_lt hb) hs
              · cases h
theorem nx_yes {m t : ByteArray} {L : Hds} {B : List UInt8} {k : Nat} (h : nextL hdB w = .yes (m, t, L) B k) : Tri Tryz.prog W fNext [.ptr 0 0] [(0, pO 1002 off w.length), (1002, rB1 P)] (yesV m t L B) ((0, pO 1002 (off + k) (w.drop k).length) :: (1002, rB1 P) :: hsH L B) := by
  unfold nextL at h
  cases hn : hdN w with
  | none =>
    rw [hn] at h
    simp only at h
    split at h <;> cases h
  | some n =>
    have hz : headZ w = Int.ofNat n := by unfold headZ; rw [hn]; rfl
    obtain ⟨n2, nw⟩ := hdN_len hn
    rw [hn] at h
    simp only at h
    split at h
    · cases h
    · rename_i h8
      have h8 : n ≤ 8192 := Nat.le_of_not_lt h8
      obtain ⟨l0, ls, hM⟩ := linesB_cons (w.take n)
      have hh : hdB (w.take n) = hdL (l0 :: ls) := by unfold hdB; rw [hM]
      rw [hh] at h
      unfold hdL at h
      simp only at h
      cases hline : lnB l0 with
      | none => rw [hline] at h; cases h
      | some p =>
        obtain ⟨m', t'⟩ := p
        have h4 : 4 ≤ n := by
          rcases hdN_two hn with ⟨e, e2⟩ | h4
          · rw [e2, lines_two] at hM
            obtain rfl := (List.cons.inj hM).1
            rw [line_nil] at hline
            cases hline
          · exact h4
        rw [hline] at h
        simp only at h
        cases hd : hdrsB [] ls with
        | none => rw [hd] at h; cases h
        | some L' =>
          rw [hd] at h
          simp only at h
          cases hL : lenB L' with
          | none => rw [hL] at h; cases h
          | some sz =>
            rw [hL] at h
            simp only at h
            by_cases hb : 65536 < sz
            · rw [if_pos hb] at h; cases h
            · rw [if_neg hb] at h
              simp only at h
              split at h
              · cases h
              · rename_i hs
                cases h
                have hb := Nat.le_of_not_lt hb
                have hs := Nat.le_of_not_lt hs
                rw [List.length_drop]
                unfold yesV hsV hsH
                by_cases h0 : sz = 0
                · subst h0
                  rw [List.take_zero]
                  cases L with
                  | nil =>
                    have := nx9z hW hw hl hz nw h8 hoff hM h4 hline (hdrsB_nil hd)
                    exact this
                  | cons x r =>
                    have := nx9e hW hw hl hz nw h8 hoff hM h4 hline hd (by intro e; cases e) hL
                    exact this
                · have hBl : ((w.drop n).take sz).length = sz := by rw [List.length_take, List.length_drop]; omega
                  rw [hBl]
                  cases L with
                  | nil => exact absurd (Option.some.inj hL).symm h0
                  | cons x r =>
                    have := nx9r hW hw hl hz nw h8 hoff hM h4 hline hd (by intro e; cases e) hL hb hs (by omega)
                    exact this
end
theorem hsH_ok (L : Hds) (B : List UInt8) : (getO (hsH L B) 0).isNone = true ∧ (getO (hsH L B) 1002).isNone = true ∧ namesLt 1100 (hsH L B) = true := by cases L <;> exact ⟨rfl, rfl, rfl⟩
theorem hsH_cl (L : Hds) (B : List UInt8) (K : Nat → Bool) : ∀ x ∈ hsH L B, x.2.cl K := by
  cases L with
  | nil => exact all_cons (rB_cl _ _) all_nil
  | cons x r => exact all_cons (rP_cl _ _) (all_cons (rB_cl _ _) all_nil)
theorem noV_cl (K : Nat → Bool) (s : Nat) : AV.cls K [noV s] := ⟨⟨⟨trivial, trivial, trivial, trivial, trivial⟩, trivial, trivial, trivial⟩, trivial⟩
theorem Next_no {W : World} (hW : LW W) {w : List UInt8} (hl : w.length ≤ 4000000) {s : Nat} (h : nextL hdB w = .no s) : Tri Tryz.prog W fNext [.ptr 0 0] [(0, parO w)] (noV s) [(0, parO w)] := by
  refine open_par (H0 := []) ⟨rfl, rfl, rfl⟩ (fun e => ?_) (fun P off h1 h2 => ?_)
  · subst e
    have : s = 0 := by
      have h : (Rs.no 0 : Rs Rq0) = .no s := h
      cases h; rfl
    subst this
    exact Tri.post (fun W0 F N w0 vargs hF => Next0_tri W0 F N w0 vargs (OldOK.nothing F)) (shut_par0 (H0 := []) ⟨rfl, rfl, rfl⟩ (noV_cl _ _) (fun x hx => by cases hx))
  · exact Tri.post (nx_no hW h1 hl h2 h) (shut_par (H0 := []) ⟨rfl, rfl, rfl⟩ h1 h2 (noV_cl _ _) (fun x hx => by cases hx))
theorem Next_yes {W : World} (hW : LW W) {w : List UInt8} (hl : w.length ≤ 4000000) {m t : ByteArray} {L : Hds} {B : List UInt8} {k : Nat} (h : nextL hdB w = .yes (m, t, L) B k) : Tri Tryz.prog W fNext [.ptr 0 0] [(0, parO w)] (yesV m t L B) ((0, parO (w.drop k)) :: hsH L B) := by
  refine open_par (H0 := []) ⟨rfl, rfl, rfl⟩ (fun e => ?_) (fun P off h1 h2 => ?_)
  · subst e
    have h : (Rs.no 0 : Rs Rq0) = .yes (m, t, L) B k := h
    cases h
  · have hk := (next_yes hdB [] h).2.2
    refine Tri.post (nx_yes hW h1 hl h2 h) (shut_par (H0 := hsH L B) (hsH_ok L B) (by rw [← h1, List.drop_drop]) (by rw [List.length_drop]; omega) ?_ (hsH_cl L B _))
    cases L with
    | nil => exact ⟨⟨⟨trivial, trivial, trivial, rfl, trivial⟩, trivial, trivial, trivial⟩, trivial⟩
    | cons x r => exact ⟨⟨⟨trivial, trivial, rfl, rfl, trivial⟩, trivial, trivial, trivial⟩, trivial⟩
end Go.Proofs.YtpijbbobejeemaaGreatDoor.Htp

/- Http: Feed. -/
set_option linter.unusedVariables false
set_option linter.unusedSimpArgs false
set_option maxRecDepth 100000
namespace Go.Proofs.YtpijbbobejeemaaGreatDoor.Htp
open Go Go.RowKit Go.Proofs.YtpijbbobejeemaaGreatDoor.Eng Go.Proofs.YtpijbbobejeemaaGreatDoor.Kit
def gFe : List AV → AP (Nat × Nat) := fun args => match args with
  | [.ptr p _, .slice x _ _ _ _] => .ret (p, x)
  | _ => .fail "feed"
def nmFe (p : Nat × Nat) : Nat → Nat := fun k => match Nat.beq k 0 with
  | true => p.1
  | false => match Nat.beq k 1001 with
    | true => p.2
    | false => k
theorem gFe_ro : ∀ args, RO (gFe args) := by
  intro args
  unfold gFe
  split
  · exact RO.ret _
  · exact RO.fail _
theorem rB1_from {y : List AV} {x : List UInt8} {σ : Nat → Nat} (h : y = rowV encB x) : OW (.cells y tByt) ((rB1 x).ren σ) := by rw [rB1_ren]; subst h; exact rB_rB1 x
theorem moved_odd (off : Nat) : moved off (tByt + 1) = tByt + 1 := by cases off <;> rfl
theorem rB1_mv {y : List AV} {x : List UInt8} {σ : Nat → Nat} {off : Nat} (h : y = rowV encB x) : OW (.cells y (moved off (tByt + 1))) ((rB1 x).ren σ) := by rw [rB1_ren, moved_odd]; subst h; exact OW.refl _
theorem row_all (x : List UInt8) : List.take x.length (List.drop 0 (rowV encB x)) = rowV encB x := by
  rw [List.drop_zero, List.take_of_length_le (by rw [rB_len]; exact Nat.le_refl _)]
theorem Feed_tri (w x : List UInt8) (hb : w.length + x.length ≤ 4000000) : Tri Tryz.prog default fFeed [.ptr 0 0, sB 1001 x.length] [(0, parO w), (1001, rB x)] (.tuple []) [(0, parO (w ++ x))] := by
  have hx1 : x.length.ble x.length = true := by rw [Nat.ble_eq]; exact Nat.le_refl _
  have hx2 : (rowV encB x).length.beq x.length = true := by rw [rB_len]; exact Nat.beq_refl _
  have hx3 : (rowV encB x).all AV.one = true := one_rowV (fun _ => rfl) _
  have hx4 := row_all x
  have b1 : x.length.ble 140737488355328 = true := ble_of (by omega)
  have b2 : x.length.ble 9223372036854775807 = true := ble_of (by omega)
  refine open_par (H0 := [(1001, rB x)]) ⟨rfl, rfl, rfl⟩ (fun e => ?_) (fun P off h1 h2 => ?_)
  · subst e
    rw [List.nil_append]
    by_cases h0 : x = []
    · subst h0
      refine Tri.post (H' := [(0, pZ)]) (v := .tuple []) ?_ (shut_par0 (H0 := []) ⟨rfl, rfl, rfl⟩ ⟨trivial, trivial⟩ (fun x hx => by cases hx))
      refine tri_run (con := []) (hints := hintL [(fFeed, 0, 6, h0)]) (lc := []) kFe rfl (fun F hF => noC) (fun F hF => noL) fun F => ?_
      refine cast (congrArg (VAll _) (oFeZ0_eq F).symm) ⟨⟨?_, (fit_mk (vs' := [.tuple []]) (H' := [(0, pZ)]) [] rfl rfl (VW.refl _) ⟨⟨_, rfl, pZ_ow rfl⟩, trivial⟩).fits rfl⟩⟩
      simp only [Cnd.holds, rens_rowV, Nat.blt_eq, true_and, and_true]
      and_intros
      all_goals first
        | (with_reducible exact trivial)
        | (with_reducible exact rfl)
        | (with_reducible exact Wk.refl _)
        | (with_reducible exact VW.refl _)
        | (with_reducible exact OW.refl _)
        | (with_reducible exact wk_lit _)
        | (with_reducible assumption)
        | exact rfl
        | exact Wk.refl _
        | exact VW.refl _
        | exact OW.refl _
        | ((repeat (first | exact VW.nil | refine VW.cons (Wk.refl _) ?_ | refine VW.cons (Wk.any _) ?_ | refine VW.cons (wk_cap (Nat.le_refl _)) ?_)); done)
    · have hp : 0 < x.length := List.length_pos_iff.2 h0
      have b0 : Nat.blt 0 x.length = true := by rw [Nat.blt_eq]; exact hp
      refine Tri.post (H' := [(0, pO 1002 0 x.length), (1002, rB1 x)]) (v := .tuple []) ?_ (shut_par (H0 := []) ⟨rfl, rfl, rfl⟩ rfl (Nat.zero_add _) ⟨trivial, trivial⟩ (fun x hx => by cases hx))
      refine tri_run (con := []) (hints := noHints) (lc := []) kFe rfl (fun F hF => noC) (fun F hF => noL) fun F => ?_
      refine cast (congrArg (VAll _) (oFeZ_eq x x.length F).symm) ⟨⟨?_, (fit_mk (vs' := [.tuple []]) (H' := [(0, pO 1002 0 x.length), (1002, rB1 x)]) [(1002, 1100)] rfl rfl (VW.refl _) ⟨⟨_, rfl, OW.refl _⟩, ⟨_, rfl, rB1_from (by rw [Nat.mul_one, hx4])⟩, trivial⟩).fits rfl⟩⟩
      simp only [Cnd.holds, Nat.mul_one, hx1, hx2, hx3, hx4, b0, b1, b2, Nat.blt_eq, true_and, and_true]
      and_intros
      all_goals first
        | (with_reducible exact trivial)
        | (with_reducible exact rfl)
        | (with_reducible exact Wk.refl _)
        | (with_reducible exact VW.refl _)
        | (with_reducible exact OW.refl _)
        | (with_reducible exact wk_lit _)
        | (with_reducible assumption)
        | exact rfl
        | exact Wk.refl _
        | exact VW.refl _
        | exact OW.refl _
        | ((repeat (first | exact VW.nil | refine VW.cons (Wk.refl _) ?_ | refine VW.cons (Wk.any _) ?_ | refine VW.cons (wk_cap (Nat.le_refl _)) ?_)); done)
  · by_cases h0 : x = []
    · subst h0
      rw [List.append_nil]
      refine Tri.post (H' := [(0, pO 1002 off w.length), (1002, rB1 P)]) (v := .tuple []) ?_ (shut_par (H0 := []) ⟨rfl, rfl, rfl⟩ h1 h2 ⟨trivial, trivial⟩ (fun x hx => by cases hx))
      refine tri_run (con := []) (hints := hintL [(fFeed, 0, 6, h0)]) (lc := []) kFe rfl (fun F hF => noC) (fun F hF => noL) fun F => ?_
      refine cast (congrArg (VAll _) (oFeR0_eq P off w.length F).symm) ⟨⟨?_, (fit_mk (vs' := [.tuple []]) (H' := [(0, pO 1002 off w.length), (1002, rB1 P)]) [(1002, 1002)] rfl rfl (VW.refl _) ⟨⟨_, rfl, pO_ow rfl rfl⟩, ⟨_, rfl, rB1_ow rfl rfl⟩, trivial⟩).fits rfl⟩⟩
      simp only [Cnd.holds, rens_rowV, Nat.blt_eq, true_and, and_true]
      and_intros
      all_goals first
        | (with_reducible exact trivial)
        | (with_reducible exact rfl)
        | (with_reducible exact Wk.refl _)
        | (with_reducible exact VW.refl _)
        | (with_reducible exact OW.refl _)
        | (with_reducible exact wk_lit _)
        | (with_reducible assumption)
        | exact rfl
        | exact Wk.refl _
        | exact VW.refl _
        | exact OW.refl _
        | ((repeat (first | exact VW.nil | refine VW.cons (Wk.refl _) ?_ | refine VW.cons (Wk.any _) ?_ | refine VW.cons (wk_cap (Nat.le_refl _)) ?_)); done)
    · have hp : 0 < x.length := List.length_pos_iff.2 h0
      have b0 : Nat.blt 0 x.length = true := by rw [Nat.blt_eq]; exact hp
      have hP : List.take w.length (List.drop off (rowV encB P)) = rowV encB w := rowB_wait h1
      have k1 : (off + w.length).ble (rowV encB P).length = true := by rw [rB_len, Nat.ble_eq]; omega
      have k2 : (rowV encB w).length.beq w.length = true := by rw [rB_len]; exact Nat.beq_refl _
      have b3 : (w.length + x.length).ble 140737488355328 = true := ble_of (by omega)
      have b4 : (w.length + x.length).ble 9223372036854775807 = true := ble_of (by omega)
      refine Tri.post (H' := [(0, pO 1002 0 (w ++ x).length), (1002, rB1 (w ++ x))]) (v := .tuple []) ?_ (shut_par (H0 := []) ⟨rfl, rfl, rfl⟩ rfl (Nat.zero_add _) ⟨trivial, trivial⟩ (fun x hx => by cases hx))
      rw [List.length_append]
      refine tri_run (con := []) (hints := noHints) (lc := []) kFe rfl (fun F hF => noC) (fun F hF => noL) fun F => ?_
      refine cast (congrArg (VAll _) (oFeR_eq P x off w.length x.length F).symm) ⟨⟨?_, (fit_mk (vs' := [.tuple []]) (H' := [(0, pO 1002 0 (w.length + x.length)), (1002, rB1 (w ++ x))]) [(1002, 1100)] rfl rfl (VW.refl _) ⟨⟨_, rfl, OW.refl _⟩, ⟨_, rfl, rB1_mv (by rw [Nat.mul_one, Nat.mul_one, hx4, hP, rowV_append])⟩, trivial⟩).fits rfl⟩⟩
      simp only [Cnd.holds, Nat.mul_one, hx1, hx2, hx3, hx4, b0, b1, b2, hP, k1, k2, b3, b4, Nat.blt_eq, true_and, and_true]
      and_intros
      all_goals first
        | (with_reducible exact trivial)
        | (with_reducible exact rfl)
        | (with_reducible exact Wk.refl _)
        | (with_reducible exact VW.refl _)
        | (with_reducible exact OW.refl _)
        | (with_reducible exact wk_lit _)
        | (with_reducible assumption)
        | exact rfl
        | exact Wk.refl _
        | exact VW.refl _
        | exact OW.refl _
        | ((repeat (first | exact VW.nil | refine VW.cons (Wk.refl _) ?_ | refine VW.cons (Wk.any _) ?_ | refine VW.cons (wk_cap (Nat.le_refl _)) ?_)); done)
end Go.Proofs.YtpijbbobejeemaaGreatDoor.Htp

