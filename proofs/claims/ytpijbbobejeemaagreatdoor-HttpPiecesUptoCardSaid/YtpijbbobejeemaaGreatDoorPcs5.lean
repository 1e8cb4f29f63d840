/- Parts of the proof, merged. -/
import Derived.Test.YtpijbbobejeemaaGreatDoorPcs4
import Derived.Test.YtpijbbobejeemaaGreatDoorPcs3
import Derived.ProofKit
import Derived.Test.YtpijbbobejeemaaGreatDoorMem
import Derived.Deep.Slices
import Derived.SizedLaws
import Derived.Test.YtpijbbobejeemaaGreatDoorRows
import Derived.Deep.DeepHandedRow
import Derived.Lay
import Derived.OpenShut
import Derived.Deep.Fields
import Derived.ChangeSame
/- Http: told: runs. -/
set_option linter.unusedVariables false
set_option linter.unusedSimpArgs false
set_option maxRecDepth 100000
namespace Go.Proofs.YtpijbbobejeemaaGreatDoor.Htp
open Go Go.RowKit Go.Proofs.YtpijbbobejeemaaGreatDoor.Eng Go.Proofs.YtpijbbobejeemaaGreatDoor.Kit Go.Proofs.YtpijbbobejeemaaGreatDoor.Tree
noncomputable section
abbrev fTold : Nat := 15
def sQ (i n : Nat) : AV := .slice i 0 n 4 (.lo n)
/-! the loop over the requests that are whole -/
def aIn (b c : AV) (k n i : Nat) (at' : Nat) : List (Nat × AV) := [(0, b), (1, c), (7, .ptr 1 0), (8, sQ k n), (9, iv (Int.ofNat at')), (11, iv (Int.ofNat i))]
def kIn : List Nat := [1, 1000, 1001, 1100, 1101, 1102, 1103, 1104, 1105]
def iIn : List Nat := [0, 1, 7, 8, 9, 10, 11]
def cNxN (w : List UInt8) (s : Nat) : List AV → Option (AP AV) := mkC gP1 (fun _ => True) nm0 (fun _ => [.ptr 0 0]) (fun _ => [(0, parO w)]) (fun _ => .leaf .ret [.tuple [rqV nil0 nil0 nilP nilB, bv false, iv (Int.ofNat s)]] [(0, parO w)])
def cNxY (w w' : List UInt8) (m t : ByteArray) (L : Hds) (B : List UInt8) : List AV → Option (AP AV) := mkC gP1 (fun _ => True) nm0 (fun _ => [.ptr 0 0]) (fun _ => [(0, parO w)]) (fun _ => .leaf .ret [.tuple [rqV m t (sP 1000 L.length) (sB 1001 B.length), bv true, iv (Int.ofNat 0)]] [(0, parO w'), (1000, rP L), (1001, rB B)])
def cNxZ (w w' : List UInt8) (m t : ByteArray) (B : List UInt8) : List AV → Option (AP AV) := mkC gP1 (fun _ => True) nm0 (fun _ => [.ptr 0 0]) (fun _ => [(0, parO w)]) (fun _ => .leaf .ret [.tuple [rqV m t nilP (sB 1001 B.length), bv true, iv (Int.ofNat 0)]] [(0, parO w'), (1001, rB B)])
theorem oInX_eq (W : World) (b c : Value) (w : List UInt8) (R : List Rqr) (M : List Rqm) (n i a s : Nat) (F : HP) : wLoop [(fNext, cNxN w s)] (hintL [(fTold, 15, 1, hv (.lit true))]) [] W fTold (loopN fTold 13) (tms 0 69 (aIn (.v b) (.v c) 1001 n i a)) (outN (parO w) R M) kIn iIn F = VT.leaf (AX.exit 2, [AV.v b, AV.v c, AV.ptr 1 0, AV.slice 1001 0 n 4 (Cp.lo n), AV.v (Value.int IntKind.i64 (Int.ofNat a)), AV.v (Value.int IntKind.i64 (Int.ofNat s)), AV.v (Value.int IntKind.i64 (Int.ofNat i))], 69) [some (AO.own Md.nothing (exHP (parR w) parL)), some (AO.any (frz (PQ R M))), some (AO.cells (rowV encQ R) 64), some (AO.cells [AV.v (Value.string nil0), AV.v (Value.string nil0), AV.v (Value.slice none 0 0), AV.v (Value.slice none 0 0)] 64), none, none, none, none, none] 1101 (((Cnd.p True).a ((Cnd.p (VW [AV.ptr 1 0] [AV.ptr 1 0])).a ((Cnd.p (OW (AO.own Md.nothing (exHP (parR w) parL)) (AO.own Md.nothing (exHP (parR w) parL)))).a Cnd.t))).a (((Cnd.p (true = true)).a Cnd.t).a (((Cnd.p (Wk (AV.v (Value.bool true)) (AV.lit true))).a Cnd.t).a Cnd.t))) := by kernel_rfl
theorem oInY_eq (W : World) (b c : Value) (w w' : List UInt8) (R : List Rqr) (M : List Rqm) (m t : ByteArray) (L : Hds) (B : List UInt8) (n i a : Nat) (F : HP) : wLoop [(fNext, cNxY w w' m t L B)] (hintL [(fTold, 15, 1, hv (.lit false))]) [] W fTold (loopN fTold 13) (tms 0 69 (aIn (.v b) (.v c) 1001 n i a)) (outN (parO w) R M) kIn iIn F = VT.leaf (AX.normal, [AV.v b, AV.v c, AV.ptr 1 0, AV.slice 1104 0 (n + 1) 4 (Cp.lo (n + 1)), AV.v (Value.int IntKind.i64 (Int.ofNat a)), AV.v (Value.int IntKind.i64 (Int.ofNat 0)), AV.v (Value.int IntKind.i64 (Int.ofNat i))], 69) [some (AO.own Md.nothing (exHP (parR w') parL)), some (AO.any (frz (PQ R M))), none, some (AO.cells (AV.rens (sgN (nm0 1) [1000, 1001] 1100) (rowV encP L)) 78), some (AO.cells (AV.rens (sgN (nm0 1) [1000, 1001] 1100) (rowV encB B)) 10), some (AO.cells [AV.v (Value.string m), AV.v (Value.string t), AV.slice 1100 0 (List.length L) 2 (Cp.lo (List.length L)), AV.slice 1101 0 B.length 1 (Cp.lo B.length)] 64), some (AO.cells [AV.v (Value.string m), AV.v (Value.string t), AV.slice 1100 0 (List.length L) 2 (Cp.lo (List.length L)), AV.slice 1101 0 B.length 1 (Cp.lo B.length)] 64), some (AO.cells (List.take (n * 4) (List.drop 0 (rowV encQ R)) ++ [AV.v (Value.string m), AV.v (Value.string t), AV.slice 1100 0 (List.length L) 2 (Cp.lo (List.length L)), AV.slice 1101 0 B.length 1 (Cp.lo B.length)]) 64), none] 1105 (((Cnd.p True).a ((Cnd.p (VW [AV.ptr 1 0] [AV.ptr 1 0])).a ((Cnd.p (OW (AO.own Md.nothing (exHP (parR w) parL)) (AO.own Md.nothing (exHP (parR w) parL)))).a Cnd.t))).a (((Cnd.p (true = true)).a Cnd.t).a (((Cnd.p (Wk (AV.v (Value.bool false)) (AV.lit false))).a Cnd.t).a (((Cnd.p (true = true)).a ((Cnd.p ([AV.v (Value.string m), AV.v (Value.string t), AV.slice 1100 0 (List.length L) 2 (Cp.lo (List.length L)), AV.slice 1101 0 B.length 1 (Cp.lo B.length)] = [AV.v (Value.string m), AV.v (Value.string t), AV.slice 1100 0 (List.length L) 2 (Cp.lo (List.length L)), AV.slice 1101 0 B.length 1 (Cp.lo B.length)])).a Cnd.t)).a (((Cnd.p (true = true)).a ((Cnd.p (true = true)).a ((Cnd.p (true = true)).a ((Cnd.p (true = true)).a ((Cnd.p ((0 + n * 4).ble (rowV encQ R).length = true)).a ((Cnd.p (((n + 1) * 80).ble 140737488355328 = true)).a ((Cnd.p ((n + 1).ble 9223372036854775807 = true)).a ((Cnd.p ((List.take (n * 4) (List.drop 0 (rowV encQ R))).length.beq (n * 4) = true)).a Cnd.t)))))))).a Cnd.t))))) := by kernel_rfl
theorem oInZ_eq (W : World) (b c : Value) (w w' : List UInt8) (R : List Rqr) (M : List Rqm) (m t : ByteArray) (B : List UInt8) (n i a : Nat) (F : HP) : wLoop [(fNext, cNxZ w w' m t B)] (hintL [(fTold, 15, 1, hv (.lit false))]) [] W fTold (loopN fTold 13) (tms 0 69 (aIn (.v b) (.v c) 1001 n i a)) (outN (parO w) R M) kIn iIn F = VT.leaf (AX.normal, [AV.v b, AV.v c, AV.ptr 1 0, AV.slice 1103 0 (n + 1) 4 (Cp.lo (n + 1)), AV.v (Value.int IntKind.i64 (Int.ofNat a)), AV.v (Value.int IntKind.i64 (Int.ofNat 0)), AV.v (Value.int IntKind.i64 (Int.ofNat i))], 69) [some (AO.own Md.nothing (exHP (parR w') parL)), some (AO.any (frz (PQ R M))), none, some (AO.cells (AV.rens (sgN (nm0 1) [1001] 1100) (rowV encB B)) 10), some (AO.cells [AV.v (Value.string m), AV.v (Value.string t), AV.v (Value.slice none 0 0), AV.slice 1100 0 B.length 1 (Cp.lo B.length)] 64), some (AO.cells [AV.v (Value.string m), AV.v (Value.string t), AV.v (Value.slice none 0 0), AV.slice 1100 0 B.length 1 (Cp.lo B.length)] 64), some (AO.cells (List.take (n * 4) (List.drop 0 (rowV encQ R)) ++ [AV.v (Value.string m), AV.v (Value.string t), AV.v (Value.slice none 0 0), AV.slice 1100 0 B.length 1 (Cp.lo B.length)]) 64), none, none] 1104 (((Cnd.p True).a ((Cnd.p (VW [AV.ptr 1 0] [AV.ptr 1 0])).a ((Cnd.p (OW (AO.own Md.nothing (exHP (parR w) parL)) (AO.own Md.nothing (exHP (parR w) parL)))).a Cnd.t))).a (((Cnd.p (true = true)).a Cnd.t).a (((Cnd.p (Wk (AV.v (Value.bool false)) (AV.lit false))).a Cnd.t).a (((Cnd.p (true = true)).a ((Cnd.p ([AV.v (Value.string m), AV.v (Value.string t), AV.v (Value.slice none 0 0), AV.slice 1100 0 B.length 1 (Cp.lo B.length)] = [AV.v (Value.string m), AV.v (Value.string t), AV.v (Value.slice none 0 0), AV.slice 1100 0 B.length 1 (Cp.lo B.length)])).a Cnd.t)).a (((Cnd.p (true = true)).a ((Cnd.p (true = true)).a ((Cnd.p (true = true)).a ((Cnd.p (true = true)).a ((Cnd.p ((0 + n * 4).ble (rowV encQ R).length = true)).a ((Cnd.p (((n + 1) * 80).ble 140737488355328 = true)).a ((Cnd.p ((n + 1).ble 9223372036854775807 = true)).a ((Cnd.p ((List.take (n * 4) (List.drop 0 (rowV encQ R))).length.beq (n * 4) = true)).a Cnd.t)))))))).a Cnd.t))))) := by kernel_rfl
/-! the loop over the cuts -/
def gIn : List AV → AP (Nat × Nat) := fun tmps => match getL tmps 7, getL tmps 8 with
  | .ptr p _, .slice a _ _ _ _ => .ret (a, p)
  | _, _ => .fail "told"
def lIn (b c : AV) (w w' : List UInt8) (M M' : List Rqm) (n n' i a s : Nat) : List AV → AP (AX × List AV) := mkL gIn (fun _ => True) nm01 (fun _ => tms 0 69 (aIn b c 0 n i a)) (fun _ => [(0, outO M), (1, parO w)]) (fun _ => .leaf (.exit 2) (tms 0 69 ((10, iv (Int.ofNat s)) :: aIn b c 1001 n' i a)) [(1, parO w'), (1001, outO M')])
def cFe (w x : List UInt8) : List AV → Option (AP AV) := mkC gFe (fun _ => True) nmFe (fun _ => [.ptr 0 0, sB 1001 x.length]) (fun _ => [(0, parO w), (1001, rB x)]) (fun _ => .leaf .ret [.tuple []] [(0, parO (w ++ x))])
def aOu (b c : AV) (n i a s : Nat) : List (Nat × AV) := [(0, b), (1, c), (7, .ptr 0 0), (8, sQ 1001 n), (9, iv (Int.ofNat a)), (10, iv (Int.ofNat s)), (11, iv (Int.ofNat i))]
def oOu (w : List UInt8) (M : List Rqm) : LH := [(0, parO w), (1001, outO M)]
def kOu : List Nat := [0, 1001, 1100, 1101, 1102, 1103, 1104]
def iOu : List Nat := [0, 1, 7, 8, 9, 10, 11]
def hOu (d n e i : Nat) (z y : Int) (mid : Bool) : List (Nat × Nat × Nat × Hint) := [(fTold, 6, 3, hv (.lit true)), (fTold, 8, 3, hv (iv (Int.ofNat d))), (fTold, 9, 3, hv (.lit mid)), (fTold, 10, 3, hv (iv z)), (fTold, 10, 4, hv (iv y)), (fTold, 10, 6, hv (iv (Int.ofNat n))), (fTold, 11, 6, hv (iv (Int.ofNat e))), (fTold, 12, 2, hv (iv (Int.ofNat e))), (fTold, 7, 1, hv (iv (Int.ofNat (i + 1))))]
theorem oOuFSM_eq (W : World) (ba ca ya : Addr) (bl bc cl cc yc : Nat) (w w' x : List UInt8) (M M' : List Rqm) (d n e i a k k' s s' : Nat) (z y : Int) (F : HP) : wLoop [(fFeed, cFe w x)] (hintL (hOu d n e i z y true ++ [(fTold, 11, 7, h0v (.v (.slice (some ya) n yc))), (fTold, 11, 8, hvo (sB 1101 n) 1101 (rB x))])) [(fTold, 13, loopN fTold 13, lIn (.v (.slice (some ba) bl bc)) (.v (.slice (some ca) cl cc)) (w ++ x) w' M M' k k' i e s')] W fTold (loopN fTold 6) (tms 0 69 (aOu (.v (.slice (some ba) bl bc)) (.v (.slice (some ca) cl cc)) k i a s)) (oOu w M) kOu iOu F = VT.leaf (AX.normal, [AV.v (Value.slice (some ba) bl bc), AV.v (Value.slice (some ca) cl cc), AV.ptr 0 0, AV.slice 1102 0 k' 4 (Cp.lo k'), AV.v (Value.int IntKind.i64 (Int.ofNat e)), AV.v (Value.int IntKind.i64 (Int.ofNat s')), AV.v (Value.int IntKind.i64 (Int.ofNat (i + 1)))], 69) [some (AO.own Md.nothing (exHP (parR w') parL)), none, some (AO.cells (rep [AV.v (Value.int IntKind.u8 (Int.ofNat 0))] 0) 10), none, some (AO.own Md.nothing (exHP (fun R => R.length = M'.length) (outL M'))), none, none] 1103 (((Cnd.p (Wk (AV.v (Value.bool (decide (Int.ofNat i ≤ ↑cl)))) (AV.lit true))).a Cnd.t).a (((Cnd.p (Wk (AV.v (Value.int IntKind.i64 (IntKind.i64.wrap (↑bl - Int.ofNat a)))) (AV.v (Value.int IntKind.i64 (Int.ofNat d))))).a Cnd.t).a (((Cnd.p (Wk (AV.v (Value.bool (decide (Int.ofNat i < ↑cl)))) (AV.lit true))).a Cnd.t).a (((Cnd.p (i.blt cl = true)).a Cnd.t).a (((Cnd.p ((W.cell? (ca.add (i * 1))).isSome = true)).a ((Cnd.p (AV.v ((W.cell? (ca.add (i * 1))).getD (Value.tuple (Array.mk []))) = AV.v (Value.int IntKind.i64 (AV.v ((W.cell? (ca.add (i * 1))).getD (Value.tuple (Array.mk [])))).intOf))).a ((Cnd.p (Wk (AV.v (Value.int IntKind.i64 (AV.v ((W.cell? (ca.add (i * 1))).getD (Value.tuple (Array.mk [])))).intOf)) (AV.v (Value.int IntKind.i64 z)))).a Cnd.t))).a (((Cnd.p (Wk (AV.v (Value.int IntKind.i64 (IntKind.i64.wrap ↑(BitVec.ofInt 64 z &&& BitVec.ofInt 64 (Int.ofNat 63)).toNat))) (AV.v (Value.int IntKind.i64 y)))).a Cnd.t).a (((Cnd.p (Wk (AV.v (Value.int IntKind.i64 (if Int.ofNat d < y then Int.ofNat d else y))) (AV.v (Value.int IntKind.i64 (Int.ofNat n))))).a Cnd.t).a (((Cnd.p (Wk (AV.v (Value.int IntKind.i64 (IntKind.i64.wrap (Int.ofNat a + Int.ofNat n)))) (AV.v (Value.int IntKind.i64 (Int.ofNat e))))).a Cnd.t).a (((Cnd.p (a ≤ e)).a ((Cnd.p (e ≤ bc)).a ((Cnd.p (Wk (AV.v (match a with | 0 => Value.slice (some ba) e bc | l + 1 => Value.slice (if bc = l + 1 then some ba else Option.map (fun x : Addr => x.add ((l + 1) * 1)) (some ba)) (e - (l + 1)) (bc - (l + 1)))) (AV.v (Value.slice (some ya) n yc)))).a Cnd.t))).a (((Cnd.p (n.ble n = true)).a ((Cnd.p (((List.range (n * 1)).all fun j => (W.cell? (ya.add j)).isSome) = true)).a ((Cnd.p ((vmap (oldCells W ya (n * 1))).all AV.one = true)).a ((Cnd.p (Nat.blt 0 n = true)).a ((Cnd.p (true = true)).a ((Cnd.p (((0 + n) * 1).ble 140737488355328 = true)).a ((Cnd.p ((0 + n).ble 9223372036854775807 = true)).a ((Cnd.p (true = true)).a ((Cnd.p (Nat.blt 0 (0 + n) = true)).a ((Cnd.p (OW (AO.cells ([] ++ vmap (oldCells W ya (n * 1))) 10) (AO.cells (rowV encB x) 10))).a ((Cnd.p (Wk (AV.slice 1101 0 (0 + n) 1 (Cp.lo (0 + n))) (AV.slice 1101 0 n 1 (Cp.lo n)))).a Cnd.t))))))))))).a (((Cnd.p True).a ((Cnd.p (VW [AV.ptr 0 0, AV.slice 1101 0 n 1 (Cp.lo n)] [AV.ptr 0 0, AV.slice 1101 0 x.length 1 (Cp.lo x.length)])).a ((Cnd.p (OW (AO.own Md.nothing (exHP (parR w) parL)) (AO.own Md.nothing (exHP (parR w) parL)))).a ((Cnd.p (OW (AO.cells (rowV encB x) 10) (AO.cells (AV.rens (nmFe (0, 1101)) (rowV encB x)) 10))).a Cnd.t)))).a (((Cnd.p (Wk (AV.v (Value.int IntKind.i64 (IntKind.i64.wrap (Int.ofNat a + Int.ofNat n)))) (AV.v (Value.int IntKind.i64 (Int.ofNat e))))).a Cnd.t).a ((Cnd.p ((fTold, 13, loopN fTold 13, lIn (AV.v (Value.slice (some ba) bl bc)) (AV.v (Value.slice (some ca) cl cc)) (w ++ x) w' M M' k k' i e s').snd.snd.fst = (fTold, 13, loopN fTold 13, lIn (AV.v (Value.slice (some ba) bl bc)) (AV.v (Value.slice (some ca) cl cc)) (w ++ x) w' M M' k k' i e s').snd.snd.fst)).a ((Cnd.p True).a ((Cnd.p (VW [AV.v (Value.slice (some ba) bl bc), AV.v (Value.slice (some ca) cl cc), AV.any, AV.any, AV.any, AV.any, AV.any, AV.ptr 0 0, AV.slice 1001 0 k 4 (Cp.lo k), AV.v (Value.int IntKind.i64 (Int.ofNat e)), AV.v (Value.int IntKind.i64 (Int.ofNat s)), AV.v (Value.int IntKind.i64 (Int.ofNat i)), AV.v (Value.int IntKind.i64 (Int.ofNat n)), AV.any, AV.any, AV.any, AV.any, AV.any, AV.any, AV.any, AV.v (Value.int IntKind.i64 (Int.ofNat i)), AV.v (Value.slice (some ca) cl cc), AV.v (Value.int IntKind.i64 ↑cl), AV.lit true, AV.any, AV.any, AV.v (Value.slice (some ba) bl bc), AV.v (Value.int IntKind.i64 ↑bl), AV.v (Value.int IntKind.i64 (Int.ofNat a)), AV.v (Value.int IntKind.i64 (Int.ofNat d)), AV.v (Value.int IntKind.i64 (Int.ofNat i)), AV.v (Value.slice (some ca) cl cc), AV.v (Value.int IntKind.i64 ↑cl), AV.lit true, AV.v (Value.slice (some ca) cl cc), AV.v (Value.int IntKind.i64 (Int.ofNat i)), AV.v (Value.pointer (some (ca.add (i * 1)))), AV.v (Value.int IntKind.i64 z), AV.v (Value.int IntKind.i64 y), AV.v (Value.int IntKind.i64 (Int.ofNat d)), AV.v (Value.int IntKind.i64 (Int.ofNat n)), AV.ptr 0 0, AV.slice 1100 0 0 1 (Cp.ex 0), AV.v (Value.slice (some ba) bl bc), AV.v (Value.int IntKind.i64 (Int.ofNat a)), AV.v (Value.int IntKind.i64 (Int.ofNat a)), AV.v (Value.int IntKind.i64 (Int.ofNat n)), AV.v (Value.int IntKind.i64 (Int.ofNat e)), AV.v (Value.slice (some ya) n yc), AV.slice 1101 0 n 1 (Cp.lo n), AV.tuple [], AV.v (Value.int IntKind.i64 (Int.ofNat a)), AV.v (Value.int IntKind.i64 (Int.ofNat n)), AV.v (Value.int IntKind.i64 (Int.ofNat e)), AV.any, AV.any, AV.any, AV.any, AV.any, AV.any, AV.any, AV.any, AV.any, AV.any, AV.any, AV.any, AV.any, AV.any, AV.any] [AV.v (Value.slice (some ba) bl bc), AV.v (Value.slice (some ca) cl cc), AV.any, AV.any, AV.any, AV.any, AV.any, AV.ptr 0 0, AV.slice 1001 0 k 4 (Cp.lo k), AV.v (Value.int IntKind.i64 (Int.ofNat e)), AV.any, AV.v (Value.int IntKind.i64 (Int.ofNat i)), AV.any, AV.any, AV.any, AV.any, AV.any, AV.any, AV.any, AV.any, AV.any, AV.any, AV.any, AV.any, AV.any, AV.any, AV.any, AV.any, AV.any, AV.any, AV.any, AV.any, AV.any, AV.any, AV.any, AV.any, AV.any, AV.any, AV.any, AV.any, AV.any, AV.any, AV.any, AV.any, AV.any, AV.any, AV.any, AV.any, AV.any, AV.any, AV.any, AV.any, AV.any, AV.any, AV.any, AV.any, AV.any, AV.any, AV.any, AV.any, AV.any, AV.any, AV.any, AV.any, AV.any, AV.any, AV.any, AV.any, AV.any])).a ((Cnd.p (OW (AO.own Md.nothing (exHP (fun R => R.length = M.length) (outL M))) (AO.own Md.nothing (exHP (fun R => R.length = M.length) (outL M))))).a ((Cnd.p (OW (AO.own Md.nothing (exHP (parR (w ++ x)) parL)) (AO.own Md.nothing (exHP (parR (w ++ x)) parL)))).a (((Cnd.p (Wk (AV.v (Value.int IntKind.i64 (IntKind.i64.wrap (Int.ofNat i + Int.ofNat 1)))) (AV.v (Value.int IntKind.i64 (Int.ofNat (i + 1)))))).a Cnd.t).a Cnd.t)))))))))))))))))) := by kernel_rfl
theorem oOuESM_eq (W : World) (ba ca ya : Addr) (bl bc cl cc yc : Nat) (w w' x : List UInt8) (M M' : List Rqm) (d n e i a k k' s s' : Nat) (z y : Int) (F : HP) : wLoop [(fFeed, cFe w [])] (hintL (hOu d 0 e i z y true ++ [(fTold, 11, 7, h0v (.v (.slice (some ya) 0 yc))), (fTold, 11, 8, h0)])) [(fTold, 13, loopN fTold 13, lIn (.v (.slice (some ba) bl bc)) (.v (.slice (some ca) cl cc)) (w ++ []) w' M M' k k' i e s')] W fTold (loopN fTold 6) (tms 0 69 (aOu (.v (.slice (some ba) bl bc)) (.v (.slice (some ca) cl cc)) k i a s)) (oOu w M) kOu iOu F = VT.leaf (AX.normal, [AV.v (Value.slice (some ba) bl bc), AV.v (Value.slice (some ca) cl cc), AV.ptr 0 0, AV.slice 1101 0 k' 4 (Cp.lo k'), AV.v (Value.int IntKind.i64 (Int.ofNat e)), AV.v (Value.int IntKind.i64 (Int.ofNat s')), AV.v (Value.int IntKind.i64 (Int.ofNat (i + 1)))], 69) [some (AO.own Md.nothing (exHP (parR w') parL)), none, none, some (AO.own Md.nothing (exHP (fun R => R.length = M'.length) (outL M'))), none, none, none] 1102 (((Cnd.p (Wk (AV.v (Value.bool (decide (Int.ofNat i ≤ ↑cl)))) (AV.lit true))).a Cnd.t).a (((Cnd.p (Wk (AV.v (Value.int IntKind.i64 (IntKind.i64.wrap (↑bl - Int.ofNat a)))) (AV.v (Value.int IntKind.i64 (Int.ofNat d))))).a Cnd.t).a (((Cnd.p (Wk (AV.v (Value.bool (decide (Int.ofNat i < ↑cl)))) (AV.lit true))).a Cnd.t).a (((Cnd.p (i.blt cl = true)).a Cnd.t).a (((Cnd.p ((W.cell? (ca.add (i * 1))).isSome = true)).a ((Cnd.p (AV.v ((W.cell? (ca.add (i * 1))).getD (Value.tuple (Array.mk []))) = AV.v (Value.int IntKind.i64 (AV.v ((W.cell? (ca.add (i * 1))).getD (Value.tuple (Array.mk [])))).intOf))).a ((Cnd.p (Wk (AV.v (Value.int IntKind.i64 (AV.v ((W.cell? (ca.add (i * 1))).getD (Value.tuple (Array.mk [])))).intOf)) (AV.v (Value.int IntKind.i64 z)))).a Cnd.t))).a (((Cnd.p (Wk (AV.v (Value.int IntKind.i64 (IntKind.i64.wrap ↑(BitVec.ofInt 64 z &&& BitVec.ofInt 64 (Int.ofNat 63)).toNat))) (AV.v (Value.int IntKind.i64 y)))).a Cnd.t).a (((Cnd.p (Wk (AV.v (Value.int IntKind.i64 (if Int.ofNat d < y then Int.ofNat d else y))) (AV.v (Value.int IntKind.i64 (Int.ofNat 0))))).a Cnd.t).a (((Cnd.p (Wk (AV.v (Value.int IntKind.i64 (IntKind.i64.wrap (Int.ofNat a + Int.ofNat 0)))) (AV.v (Value.int IntKind.i64 (Int.ofNat e))))).a Cnd.t).a (((Cnd.p (a ≤ e)).a ((Cnd.p (e ≤ bc)).a ((Cnd.p (Wk (AV.v (match a with | 0 => Value.slice (some ba) e bc | l + 1 => Value.slice (if bc = l + 1 then some ba else Option.map (fun x : Addr => x.add ((l + 1) * 1)) (some ba)) (e - (l + 1)) (bc - (l + 1)))) (AV.v (Value.slice (some ya) 0 yc)))).a Cnd.t))).a (((Cnd.p (0 = 0)).a Cnd.t).a (((Cnd.p True).a ((Cnd.p (VW [AV.ptr 0 0, AV.slice 1100 0 0 1 (Cp.ex 0)] [AV.ptr 0 0, AV.slice 1100 0 0 1 (Cp.lo 0)])).a ((Cnd.p (OW (AO.own Md.nothing (exHP (parR w) parL)) (AO.own Md.nothing (exHP (parR w) parL)))).a ((Cnd.p (OW (AO.cells (rep [AV.v (Value.int IntKind.u8 (Int.ofNat 0))] 0) 10) (AO.cells [] 10))).a Cnd.t)))).a (((Cnd.p (Wk (AV.v (Value.int IntKind.i64 (IntKind.i64.wrap (Int.ofNat a + Int.ofNat 0)))) (AV.v (Value.int IntKind.i64 (Int.ofNat e))))).a Cnd.t).a ((Cnd.p ((fTold, 13, loopN fTold 13, lIn (AV.v (Value.slice (some ba) bl bc)) (AV.v (Value.slice (some ca) cl cc)) (w ++ []) w' M M' k k' i e s').snd.snd.fst = (fTold, 13, loopN fTold 13, lIn (AV.v (Value.slice (some ba) bl bc)) (AV.v (Value.slice (some ca) cl cc)) (w ++ []) w' M M' k k' i e s').snd.snd.fst)).a ((Cnd.p True).a ((Cnd.p (VW [AV.v (Value.slice (some ba) bl bc), AV.v (Value.slice (some ca) cl cc), AV.any, AV.any, AV.any, AV.any, AV.any, AV.ptr 0 0, AV.slice 1001 0 k 4 (Cp.lo k), AV.v (Value.int IntKind.i64 (Int.ofNat e)), AV.v (Value.int IntKind.i64 (Int.ofNat s)), AV.v (Value.int IntKind.i64 (Int.ofNat i)), AV.v (Value.int IntKind.i64 (Int.ofNat 0)), AV.any, AV.any, AV.any, AV.any, AV.any, AV.any, AV.any, AV.v (Value.int IntKind.i64 (Int.ofNat i)), AV.v (Value.slice (some ca) cl cc), AV.v (Value.int IntKind.i64 ↑cl), AV.lit true, AV.any, AV.any, AV.v (Value.slice (some ba) bl bc), AV.v (Value.int IntKind.i64 ↑bl), AV.v (Value.int IntKind.i64 (Int.ofNat a)), AV.v (Value.int IntKind.i64 (Int.ofNat d)), AV.v (Value.int IntKind.i64 (Int.ofNat i)), AV.v (Value.slice (some ca) cl cc), AV.v (Value.int IntKind.i64 ↑cl), AV.lit true, AV.v (Value.slice (some ca) cl cc), AV.v (Value.int IntKind.i64 (Int.ofNat i)), AV.v (Value.pointer (some (ca.add (i * 1)))), AV.v (Value.int IntKind.i64 z), AV.v (Value.int IntKind.i64 y), AV.v (Value.int IntKind.i64 (Int.ofNat d)), AV.v (Value.int IntKind.i64 (Int.ofNat 0)), AV.ptr 0 0, AV.slice 1100 0 0 1 (Cp.ex 0), AV.v (Value.slice (some ba) bl bc), AV.v (Value.int IntKind.i64 (Int.ofNat a)), AV.v (Value.int IntKind.i64 (Int.ofNat a)), AV.v (Value.int IntKind.i64 (Int.ofNat 0)), AV.v (Value.int IntKind.i64 (Int.ofNat e)), AV.v (Value.slice (some ya) 0 yc), AV.slice 1100 0 0 1 (Cp.ex 0), AV.tuple [], AV.v (Value.int IntKind.i64 (Int.ofNat a)), AV.v (Value.int IntKind.i64 (Int.ofNat 0)), AV.v (Value.int IntKind.i64 (Int.ofNat e)), AV.any, AV.any, AV.any, AV.any, AV.any, AV.any, AV.any, AV.any, AV.any, AV.any, AV.any, AV.any, AV.any, AV.any, AV.any] [AV.v (Value.slice (some ba) bl bc), AV.v (Value.slice (some ca) cl cc), AV.any, AV.any, AV.any, AV.any, AV.any, AV.ptr 0 0, AV.slice 1001 0 k 4 (Cp.lo k), AV.v (Value.int IntKind.i64 (Int.ofNat e)), AV.any, AV.v (Value.int IntKind.i64 (Int.ofNat i)), AV.any, AV.any, AV.any, AV.any, AV.any, AV.any, AV.any, AV.any, AV.any, AV.any, AV.any, AV.any, AV.any, AV.any, AV.any, AV.any, AV.any, AV.any, AV.any, AV.any, AV.any, AV.any, AV.any, AV.any, AV.any, AV.any, AV.any, AV.any, AV.any, AV.any, AV.any, AV.any, AV.any, AV.any, AV.any, AV.any, AV.any, AV.any, AV.any, AV.any, AV.any, AV.any, AV.any, AV.any, AV.any, AV.any, AV.any, AV.any, AV.any, AV.any, AV.any, AV.any, AV.any, AV.any, AV.any, AV.any, AV.any])).a ((Cnd.p (OW (AO.own Md.nothing (exHP (fun R => R.length = M.length) (outL M))) (AO.own Md.nothing (exHP (fun R => R.length = M.length) (outL M))))).a ((Cnd.p (OW (AO.own Md.nothing (exHP (parR (w ++ [])) parL)) (AO.own Md.nothing (exHP (parR (w ++ [])) parL)))).a (((Cnd.p (Wk (AV.v (Value.int IntKind.i64 (IntKind.i64.wrap (Int.ofNat i + Int.ofNat 1)))) (AV.v (Value.int IntKind.i64 (Int.ofNat (i + 1)))))).a Cnd.t).a Cnd.t)))))))))))))))))) := by kernel_rfl
theorem oOuZSM_eq (W : World) (ba ca ya : Addr) (bl bc cl cc yc : Nat) (w w' x : List UInt8) (M M' : List Rqm) (d n e i a k k' s s' : Nat) (z y : Int) (F : HP) : wLoop [(fFeed, cFe w [])] (hintL (hOu d 0 e i z y true ++ [(fTold, 11, 7, h0v (.v (.slice none 0 yc))), (fTold, 11, 8, h0)])) [(fTold, 13, loopN fTold 13, lIn (.v (.slice none 0 bc)) (.v (.slice (some ca) cl cc)) (w ++ []) w' M M' k k' i e s')] W fTold (loopN fTold 6) (tms 0 69 (aOu (.v (.slice none 0 bc)) (.v (.slice (some ca) cl cc)) k i a s)) (oOu w M) kOu iOu F = VT.leaf (AX.normal, [AV.v (Value.slice none 0 bc), AV.v (Value.slice (some ca) cl cc), AV.ptr 0 0, AV.slice 1101 0 k' 4 (Cp.lo k'), AV.v (Value.int IntKind.i64 (Int.ofNat e)), AV.v (Value.int IntKind.i64 (Int.ofNat s')), AV.v (Value.int IntKind.i64 (Int.ofNat (i + 1)))], 69) [some (AO.own Md.nothing (exHP (parR w') parL)), none, none, some (AO.own Md.nothing (exHP (fun R => R.length = M'.length) (outL M'))), none, none, none] 1102 (((Cnd.p (Wk (AV.v (Value.bool (decide (Int.ofNat i ≤ ↑cl)))) (AV.lit true))).a Cnd.t).a (((Cnd.p (Wk (AV.v (Value.int IntKind.i64 (IntKind.i64.wrap (Int.ofNat 0 - Int.ofNat a)))) (AV.v (Value.int IntKind.i64 (Int.ofNat d))))).a Cnd.t).a (((Cnd.p (Wk (AV.v (Value.bool (decide (Int.ofNat i < ↑cl)))) (AV.lit true))).a Cnd.t).a (((Cnd.p (i.blt cl = true)).a Cnd.t).a (((Cnd.p ((W.cell? (ca.add (i * 1))).isSome = true)).a ((Cnd.p (AV.v ((W.cell? (ca.add (i * 1))).getD (Value.tuple (Array.mk []))) = AV.v (Value.int IntKind.i64 (AV.v ((W.cell? (ca.add (i * 1))).getD (Value.tuple (Array.mk [])))).intOf))).a ((Cnd.p (Wk (AV.v (Value.int IntKind.i64 (AV.v ((W.cell? (ca.add (i * 1))).getD (Value.tuple (Array.mk [])))).intOf)) (AV.v (Value.int IntKind.i64 z)))).a Cnd.t))).a (((Cnd.p (Wk (AV.v (Value.int IntKind.i64 (IntKind.i64.wrap ↑(BitVec.ofInt 64 z &&& BitVec.ofInt 64 (Int.ofNat 63)).toNat))) (AV.v (Value.int IntKind.i64 y)))).a Cnd.t).a (((Cnd.p (Wk (AV.v (Value.int IntKind.i64 (if Int.ofNat d < y then Int.ofNat d else y))) (AV.v (Value.int IntKind.i64 (Int.ofNat 0))))).a Cnd.t).a (((Cnd.p (Wk (AV.v (Value.int IntKind.i64 (IntKind.i64.wrap (Int.ofNat a + Int.ofNat 0)))) (AV.v (Value.int IntKind.i64 (Int.ofNat e))))).a Cnd.t).a (((Cnd.p (a ≤ e)).a ((Cnd.p (e ≤ bc)).a ((Cnd.p (Wk (AV.v (match a with | 0 => Value.slice none e bc | l + 1 => Value.slice (if bc = l + 1 then none else Option.map (fun x : Addr => x.add ((l + 1) * 1)) none) (e - (l + 1)) (bc - (l + 1)))) (AV.v (Value.slice none 0 yc)))).a Cnd.t))).a (((Cnd.p (0 = 0)).a Cnd.t).a (((Cnd.p True).a ((Cnd.p (VW [AV.ptr 0 0, AV.slice 1100 0 0 1 (Cp.ex 0)] [AV.ptr 0 0, AV.slice 1100 0 0 1 (Cp.lo 0)])).a ((Cnd.p (OW (AO.own Md.nothing (exHP (parR w) parL)) (AO.own Md.nothing (exHP (parR w) parL)))).a ((Cnd.p (OW (AO.cells (rep [AV.v (Value.int IntKind.u8 (Int.ofNat 0))] 0) 10) (AO.cells [] 10))).a Cnd.t)))).a (((Cnd.p (Wk (AV.v (Value.int IntKind.i64 (IntKind.i64.wrap (Int.ofNat a + Int.ofNat 0)))) (AV.v (Value.int IntKind.i64 (Int.ofNat e))))).a Cnd.t).a ((Cnd.p ((fTold, 13, loopN fTold 13, lIn (AV.v (Value.slice none 0 bc)) (AV.v (Value.slice (some ca) cl cc)) (w ++ []) w' M M' k k' i e s').snd.snd.fst = (fTold, 13, loopN fTold 13, lIn (AV.v (Value.slice none 0 bc)) (AV.v (Value.slice (some ca) cl cc)) (w ++ []) w' M M' k k' i e s').snd.snd.fst)).a ((Cnd.p True).a ((Cnd.p (VW [AV.v (Value.slice none 0 bc), AV.v (Value.slice (some ca) cl cc), AV.any, AV.any, AV.any, AV.any, AV.any, AV.ptr 0 0, AV.slice 1001 0 k 4 (Cp.lo k), AV.v (Value.int IntKind.i64 (Int.ofNat e)), AV.v (Value.int IntKind.i64 (Int.ofNat s)), AV.v (Value.int IntKind.i64 (Int.ofNat i)), AV.v (Value.int IntKind.i64 (Int.ofNat 0)), AV.any, AV.any, AV.any, AV.any, AV.any, AV.any, AV.any, AV.v (Value.int IntKind.i64 (Int.ofNat i)), AV.v (Value.slice (some ca) cl cc), AV.v (Value.int IntKind.i64 ↑cl), AV.lit true, AV.any, AV.any, AV.v (Value.slice none 0 bc), AV.v (Value.int IntKind.i64 (Int.ofNat 0)), AV.v (Value.int IntKind.i64 (Int.ofNat a)), AV.v (Value.int IntKind.i64 (Int.ofNat d)), AV.v (Value.int IntKind.i64 (Int.ofNat i)), AV.v (Value.slice (some ca) cl cc), AV.v (Value.int IntKind.i64 ↑cl), AV.lit true, AV.v (Value.slice (some ca) cl cc), AV.v (Value.int IntKind.i64 (Int.ofNat i)), AV.v (Value.pointer (some (ca.add (i * 1)))), AV.v (Value.int IntKind.i64 z), AV.v (Value.int IntKind.i64 y), AV.v (Value.int IntKind.i64 (Int.ofNat d)), AV.v (Value.int IntKind.i64 (Int.ofNat 0)), AV.ptr 0 0, AV.slice 1100 0 0 1 (Cp.ex 0), AV.v (Value.slice none 0 bc), AV.v (Value.int IntKind.i64 (Int.ofNat a)), AV.v (Value.int IntKind.i64 (Int.ofNat a)), AV.v (Value.int IntKind.i64 (Int.ofNat 0)), AV.v (Value.int IntKind.i64 (Int.ofNat e)), AV.v (Value.slice none 0 yc), AV.slice 1100 0 0 1 (Cp.ex 0), AV.tuple [], AV.v (Value.int IntKind.i64 (Int.ofNat a)), AV.v (Value.int IntKind.i64 (Int.ofNat 0)), AV.v (Value.int IntKind.i64 (Int.ofNat e)), AV.any, AV.any, AV.any, AV.any, AV.any, AV.any, AV.any, AV.any, AV.any, AV.any, AV.any, AV.any, AV.any, AV.any, AV.any] [AV.v (Value.slice none 0 bc), AV.v (Value.slice (some ca) cl cc), AV.any, AV.any, AV.any, AV.any, AV.any, AV.ptr 0 0, AV.slice 1001 0 k 4 (Cp.lo k), AV.v (Value.int IntKind.i64 (Int.ofNat e)), AV.any, AV.v (Value.int IntKind.i64 (Int.ofNat i)), AV.any, AV.any, AV.any, AV.any, AV.any, AV.any, AV.any, AV.any, AV.any, AV.any, AV.any, AV.any, AV.any, AV.any, AV.any, AV.any, AV.any, AV.any, AV.any, AV.any, AV.any, AV.any, AV.any, AV.any, AV.any, AV.any, AV.any, AV.any, AV.any, AV.any, AV.any, AV.any, AV.any, AV.any, AV.any, AV.any, AV.any, AV.any, AV.any, AV.any, AV.any, AV.any, AV.any, AV.any, AV.any, AV.any, AV.any, AV.any, AV.any, AV.any, AV.any, AV.any, AV.any, AV.any, AV.any, AV.any, AV.any])).a ((Cnd.p (OW (AO.own Md.nothing (exHP (fun R => R.length = M.length) (outL M))) (AO.own Md.nothing (exHP (fun R => R.length = M.length) (outL M))))).a ((Cnd.p (OW (AO.own Md.nothing (exHP (parR (w ++ [])) parL)) (AO.own Md.nothing (exHP (parR (w ++ [])) parL)))).a (((Cnd.p (Wk (AV.v (Value.int IntKind.i64 (IntKind.i64.wrap (Int.ofNat i + Int.ofNat 1)))) (AV.v (Value.int IntKind.i64 (Int.ofNat (i + 1)))))).a Cnd.t).a Cnd.t)))))))))))))))))) := by kernel_rfl
theorem oOuFSL_eq (W : World) (ba ca ya : Addr) (bl bc cl cc yc : Nat) (w w' x : List UInt8) (M M' : List Rqm) (d n e i a k k' s s' : Nat) (z y : Int) (F : HP) : wLoop [(fFeed, cFe w x)] (hintL (hOu d n e i z y false ++ [(fTold, 11, 7, h0v (.v (.slice (some ya) n yc))), (fTold, 11, 8, hvo (sB 1101 n) 1101 (rB x))])) [(fTold, 13, loopN fTold 13, lIn (.v (.slice (some ba) bl bc)) (.v (.slice (some ca) cl cc)) (w ++ x) w' M M' k k' i e s')] W fTold (loopN fTold 6) (tms 0 69 (aOu (.v (.slice (some ba) bl bc)) (.v (.slice (some ca) cl cc)) k i a s)) (oOu w M) kOu iOu F = VT.leaf (AX.normal, [AV.v (Value.slice (some ba) bl bc), AV.v (Value.slice (some ca) cl cc), AV.ptr 0 0, AV.slice 1102 0 k' 4 (Cp.lo k'), AV.v (Value.int IntKind.i64 (Int.ofNat e)), AV.v (Value.int IntKind.i64 (Int.ofNat s')), AV.v (Value.int IntKind.i64 (Int.ofNat (i + 1)))], 69) [some (AO.own Md.nothing (exHP (parR w') parL)), none, some (AO.cells (rep [AV.v (Value.int IntKind.u8 (Int.ofNat 0))] 0) 10), none, some (AO.own Md.nothing (exHP (fun R => R.length = M'.length) (outL M'))), none, none] 1103 (((Cnd.p (Wk (AV.v (Value.bool (decide (Int.ofNat i ≤ ↑cl)))) (AV.lit true))).a Cnd.t).a (((Cnd.p (Wk (AV.v (Value.int IntKind.i64 (IntKind.i64.wrap (↑bl - Int.ofNat a)))) (AV.v (Value.int IntKind.i64 (Int.ofNat d))))).a Cnd.t).a (((Cnd.p (Wk (AV.v (Value.bool (decide (Int.ofNat i < ↑cl)))) (AV.lit false))).a Cnd.t).a (((Cnd.p (Wk (AV.v (Value.int IntKind.i64 (IntKind.i64.wrap (Int.ofNat a + Int.ofNat d)))) (AV.v (Value.int IntKind.i64 (Int.ofNat e))))).a Cnd.t).a (((Cnd.p (a ≤ e)).a ((Cnd.p (e ≤ bc)).a ((Cnd.p (Wk (AV.v (match a with | 0 => Value.slice (some ba) e bc | l + 1 => Value.slice (if bc = l + 1 then some ba else Option.map (fun x : Addr => x.add ((l + 1) * 1)) (some ba)) (e - (l + 1)) (bc - (l + 1)))) (AV.v (Value.slice (some ya) n yc)))).a Cnd.t))).a (((Cnd.p (n.ble n = true)).a ((Cnd.p (((List.range (n * 1)).all fun j => (W.cell? (ya.add j)).isSome) = true)).a ((Cnd.p ((vmap (oldCells W ya (n * 1))).all AV.one = true)).a ((Cnd.p (Nat.blt 0 n = true)).a ((Cnd.p (true = true)).a ((Cnd.p (((0 + n) * 1).ble 140737488355328 = true)).a ((Cnd.p ((0 + n).ble 9223372036854775807 = true)).a ((Cnd.p (true = true)).a ((Cnd.p (Nat.blt 0 (0 + n) = true)).a ((Cnd.p (OW (AO.cells ([] ++ vmap (oldCells W ya (n * 1))) 10) (AO.cells (rowV encB x) 10))).a ((Cnd.p (Wk (AV.slice 1101 0 (0 + n) 1 (Cp.lo (0 + n))) (AV.slice 1101 0 n 1 (Cp.lo n)))).a Cnd.t))))))))))).a (((Cnd.p True).a ((Cnd.p (VW [AV.ptr 0 0, AV.slice 1101 0 n 1 (Cp.lo n)] [AV.ptr 0 0, AV.slice 1101 0 x.length 1 (Cp.lo x.length)])).a ((Cnd.p (OW (AO.own Md.nothing (exHP (parR w) parL)) (AO.own Md.nothing (exHP (parR w) parL)))).a ((Cnd.p (OW (AO.cells (rowV encB x) 10) (AO.cells (AV.rens (nmFe (0, 1101)) (rowV encB x)) 10))).a Cnd.t)))).a (((Cnd.p (Wk (AV.v (Value.int IntKind.i64 (IntKind.i64.wrap (Int.ofNat a + Int.ofNat d)))) (AV.v (Value.int IntKind.i64 (Int.ofNat e))))).a Cnd.t).a ((Cnd.p ((fTold, 13, loopN fTold 13, lIn (AV.v (Value.slice (some ba) bl bc)) (AV.v (Value.slice (some ca) cl cc)) (w ++ x) w' M M' k k' i e s').snd.snd.fst = (fTold, 13, loopN fTold 13, lIn (AV.v (Value.slice (some ba) bl bc)) (AV.v (Value.slice (some ca) cl cc)) (w ++ x) w' M M' k k' i e s').snd.snd.fst)).a ((Cnd.p True).a ((Cnd.p (VW [AV.v (Value.slice (some ba) bl bc), AV.v (Value.slice (some ca) cl cc), AV.any, AV.any, AV.any, AV.any, AV.any, AV.ptr 0 0, AV.slice 1001 0 k 4 (Cp.lo k), AV.v (Value.int IntKind.i64 (Int.ofNat e)), AV.v (Value.int IntKind.i64 (Int.ofNat s)), AV.v (Value.int IntKind.i64 (Int.ofNat i)), AV.v (Value.int IntKind.i64 (Int.ofNat d)), AV.any, AV.any, AV.any, AV.any, AV.any, AV.any, AV.any, AV.v (Value.int IntKind.i64 (Int.ofNat i)), AV.v (Value.slice (some ca) cl cc), AV.v (Value.int IntKind.i64 ↑cl), AV.lit true, AV.any, AV.any, AV.v (Value.slice (some ba) bl bc), AV.v (Value.int IntKind.i64 ↑bl), AV.v (Value.int IntKind.i64 (Int.ofNat a)), AV.v (Value.int IntKind.i64 (Int.ofNat d)), AV.v (Value.int IntKind.i64 (Int.ofNat i)), AV.v (Value.slice (some ca) cl cc), AV.v (Value.int IntKind.i64 ↑cl), AV.lit false, AV.any, AV.any, AV.any, AV.any, AV.any, AV.any, AV.any, AV.ptr 0 0, AV.slice 1100 0 0 1 (Cp.ex 0), AV.v (Value.slice (some ba) bl bc), AV.v (Value.int IntKind.i64 (Int.ofNat a)), AV.v (Value.int IntKind.i64 (Int.ofNat a)), AV.v (Value.int IntKind.i64 (Int.ofNat d)), AV.v (Value.int IntKind.i64 (Int.ofNat e)), AV.v (Value.slice (some ya) n yc), AV.slice 1101 0 n 1 (Cp.lo n), AV.tuple [], AV.v (Value.int IntKind.i64 (Int.ofNat a)), AV.v (Value.int IntKind.i64 (Int.ofNat d)), AV.v (Value.int IntKind.i64 (Int.ofNat e)), AV.any, AV.any, AV.any, AV.any, AV.any, AV.any, AV.any, AV.any, AV.any, AV.any, AV.any, AV.any, AV.any, AV.any, AV.any] [AV.v (Value.slice (some ba) bl bc), AV.v (Value.slice (some ca) cl cc), AV.any, AV.any, AV.any, AV.any, AV.any, AV.ptr 0 0, AV.slice 1001 0 k 4 (Cp.lo k), AV.v (Value.int IntKind.i64 (Int.ofNat e)), AV.any, AV.v (Value.int IntKind.i64 (Int.ofNat i)), AV.any, AV.any, AV.any, AV.any, AV.any, AV.any, AV.any, AV.any, AV.any, AV.any, AV.any, AV.any, AV.any, AV.any, AV.any, AV.any, AV.any, AV.any, AV.any, AV.any, AV.any, AV.any, AV.any, AV.any, AV.any, AV.any, AV.any, AV.any, AV.any, AV.any, AV.any, AV.any, AV.any, AV.any, AV.any, AV.any, AV.any, AV.any, AV.any, AV.any, AV.any, AV.any, AV.any, AV.any, AV.any, AV.any, AV.any, AV.any, AV.any, AV.any, AV.any, AV.any, AV.any, AV.any, AV.any, AV.any, AV.any])).a ((Cnd.p (OW (AO.own Md.nothing (exHP (fun R => R.length = M.length) (outL M))) (AO.own Md.nothing (exHP (fun R => R.length = M.length) (outL M))))).a ((Cnd.p (OW (AO.own Md.nothing (exHP (parR (w ++ x)) parL)) (AO.own Md.nothing (exHP (parR (w ++ x)) parL)))).a (((Cnd.p (Wk (AV.v (Value.int IntKind.i64 (IntKind.i64.wrap (Int.ofNat i + Int.ofNat 1)))) (AV.v (Value.int IntKind.i64 (Int.ofNat (i + 1)))))).a Cnd.t).a Cnd.t)))))))))))))) := by kernel_rfl
theorem oOuESL_eq (W : World) (ba ca ya : Addr) (bl bc cl cc yc : Nat) (w w' x : List UInt8) (M M' : List Rqm) (d n e i a k k' s s' : Nat) (z y : Int) (F : HP) : wLoop [(fFeed, cFe w [])] (hintL (hOu d 0 e i z y false ++ [(fTold, 11, 7, h0v (.v (.slice (some ya) 0 yc))), (fTold, 11, 8, h0)])) [(fTold, 13, loopN fTold 13, lIn (.v (.slice (some ba) bl bc)) (.v (.slice (some ca) cl cc)) (w ++ []) w' M M' k k' i e s')] W fTold (loopN fTold 6) (tms 0 69 (aOu (.v (.slice (some ba) bl bc)) (.v (.slice (some ca) cl cc)) k i a s)) (oOu w M) kOu iOu F = VT.leaf (AX.normal, [AV.v (Value.slice (some ba) bl bc), AV.v (Value.slice (some ca) cl cc), AV.ptr 0 0, AV.slice 1101 0 k' 4 (Cp.lo k'), AV.v (Value.int IntKind.i64 (Int.ofNat e)), AV.v (Value.int IntKind.i64 (Int.ofNat s')), AV.v (Value.int IntKind.i64 (Int.ofNat (i + 1)))], 69) [some (AO.own Md.nothing (exHP (parR w') parL)), none, none, some (AO.own Md.nothing (exHP (fun R => R.length = M'.length) (outL M'))), none, none, none] 1102 (((Cnd.p (Wk (AV.v (Value.bool (decide (Int.ofNat i ≤ ↑cl)))) (AV.lit true))).a Cnd.t).a (((Cnd.p (Wk (AV.v (Value.int IntKind.i64 (IntKind.i64.wrap (↑bl - Int.ofNat a)))) (AV.v (Value.int IntKind.i64 (Int.ofNat d))))).a Cnd.t).a (((Cnd.p (Wk (AV.v (Value.bool (decide (Int.ofNat i < ↑cl)))) (AV.lit false))).a Cnd.t).a (((Cnd.p (Wk (AV.v (Value.int IntKind.i64 (IntKind.i64.wrap (Int.ofNat a + Int.ofNat d)))) (AV.v (Value.int IntKind.i64 (Int.ofNat e))))).a Cnd.t).a (((Cnd.p (a ≤ e)).a ((Cnd.p (e ≤ bc)).a ((Cnd.p (Wk (AV.v (match a with | 0 => Value.slice (some ba) e bc | l + 1 => Value.slice (if bc = l + 1 then some ba else Option.map (fun x : Addr => x.add ((l + 1) * 1)) (some ba)) (e - (l + 1)) (bc - (l + 1)))) (AV.v (Value.slice (some ya) 0 yc)))).a Cnd.t))).a (((Cnd.p (0 = 0)).a Cnd.t).a (((Cnd.p True).a ((Cnd.p (VW [AV.ptr 0 0, AV.slice 1100 0 0 1 (Cp.ex 0)] [AV.ptr 0 0, AV.slice 1100 0 0 1 (Cp.lo 0)])).a ((Cnd.p (OW (AO.own Md.nothing (exHP (parR w) parL)) (AO.own Md.nothing (exHP (parR w) parL)))).a ((Cnd.p (OW (AO.cells (rep [AV.v (Value.int IntKind.u8 (Int.ofNat 0))] 0) 10) (AO.cells [] 10))).a Cnd.t)))).a (((Cnd.p (Wk (AV.v (Value.int IntKind.i64 (IntKind.i64.wrap (Int.ofNat a + Int.ofNat d)))) (AV.v (Value.int IntKind.i64 (Int.ofNat e))))).a Cnd.t).a ((Cnd.p ((fTold, 13, loopN fTold 13, lIn (AV.v (Value.slice (some ba) bl bc)) (AV.v (Value.slice (some ca) cl cc)) (w ++ []) w' M M' k k' i e s').snd.snd.fst = (fTold, 13, loopN fTold 13, lIn (AV.v (Value.slice (some ba) bl bc)) (AV.v (Value.slice (some ca) cl cc)) (w ++ []) w' M M' k k' i e s').snd.snd.fst)).a ((Cnd.p True).a ((Cnd.p (VW [AV.v (Value.slice (some ba) bl bc), AV.v (Value.slice (some ca) cl cc), AV.any, AV.any, AV.any, AV.any, AV.any, AV.ptr 0 0, AV.slice 1001 0 k 4 (Cp.lo k), AV.v (Value.int IntKind.i64 (Int.ofNat e)), AV.v (Value.int IntKind.i64 (Int.ofNat s)), AV.v (Value.int IntKind.i64 (Int.ofNat i)), AV.v (Value.int IntKind.i64 (Int.ofNat d)), AV.any, AV.any, AV.any, AV.any, AV.any, AV.any, AV.any, AV.v (Value.int IntKind.i64 (Int.ofNat i)), AV.v (Value.slice (some ca) cl cc), AV.v (Value.int IntKind.i64 ↑cl), AV.lit true, AV.any, AV.any, AV.v (Value.slice (some ba) bl bc), AV.v (Value.int IntKind.i64 ↑bl), AV.v (Value.int IntKind.i64 (Int.ofNat a)), AV.v (Value.int IntKind.i64 (Int.ofNat d)), AV.v (Value.int IntKind.i64 (Int.ofNat i)), AV.v (Value.slice (some ca) cl cc), AV.v (Value.int IntKind.i64 ↑cl), AV.lit false, AV.any, AV.any, AV.any, AV.any, AV.any, AV.any, AV.any, AV.ptr 0 0, AV.slice 1100 0 0 1 (Cp.ex 0), AV.v (Value.slice (some ba) bl bc), AV.v (Value.int IntKind.i64 (Int.ofNat a)), AV.v (Value.int IntKind.i64 (Int.ofNat a)), AV.v (Value.int IntKind.i64 (Int.ofNat d)), AV.v (Value.int IntKind.i64 (Int.ofNat e)), AV.v (Value.slice (some ya) 0 yc), AV.slice 1100 0 0 1 (Cp.ex 0), AV.tuple [], AV.v (Value.int IntKind.i64 (Int.ofNat a)), AV.v (Value.int IntKind.i64 (Int.ofNat d)), AV.v (Value.int IntKind.i64 (Int.ofNat e)), AV.any, AV.any, AV.any, AV.any, AV.any, AV.any, AV.any, AV.any, AV.any, AV.any, AV.any, AV.any, AV.any, AV.any, AV.any] [AV.v (Value.slice (some ba) bl bc), AV.v (Value.slice (some ca) cl cc), AV.any, AV.any, AV.any, AV.any, AV.any, AV.ptr 0 0, AV.slice 1001 0 k 4 (Cp.lo k), AV.v (Value.int IntKind.i64 (Int.ofNat e)), AV.any, AV.v (Value.int IntKind.i64 (Int.ofNat i)), AV.any, AV.any, AV.any, AV.any, AV.any, AV.any, AV.any, AV.any, AV.any, AV.any, AV.any, AV.any, AV.any, AV.any, AV.any, AV.any, AV.any, AV.any, AV.any, AV.any, AV.any, AV.any, AV.any, AV.any, AV.any, AV.any, AV.any, AV.any, AV.any, AV.any, AV.any, AV.any, AV.any, AV.any, AV.any, AV.any, AV.any, AV.any, AV.any, AV.any, AV.any, AV.any, AV.any, AV.any, AV.any, AV.any, AV.any, AV.any, AV.any, AV.any, AV.any, AV.any, AV.any, AV.any, AV.any, AV.any, AV.any])).a ((Cnd.p (OW (AO.own Md.nothing (exHP (fun R => R.length = M.length) (outL M))) (AO.own Md.nothing (exHP (fun R => R.length = M.length) (outL M))))).a ((Cnd.p (OW (AO.own Md.nothing (exHP (parR (w ++ [])) parL)) (AO.own Md.nothing (exHP (parR (w ++ [])) parL)))).a (((Cnd.p (Wk (AV.v (Value.int IntKind.i64 (IntKind.i64.wrap (Int.ofNat i + Int.ofNat 1)))) (AV.v (Value.int IntKind.i64 (Int.ofNat (i + 1)))))).a Cnd.t).a Cnd.t)))))))))))))) := by kernel_rfl
theorem oOuZSL_eq (W : World) (ba ca ya : Addr) (bl bc cl cc yc : Nat) (w w' x : List UInt8) (M M' : List Rqm) (d n e i a k k' s s' : Nat) (z y : Int) (F : HP) : wLoop [(fFeed, cFe w [])] (hintL (hOu d 0 e i z y false ++ [(fTold, 11, 7, h0v (.v (.slice none 0 yc))), (fTold, 11, 8, h0)])) [(fTold, 13, loopN fTold 13, lIn (.v (.slice none 0 bc)) (.v (.slice (some ca) cl cc)) (w ++ []) w' M M' k k' i e s')] W fTold (loopN fTold 6) (tms 0 69 (aOu (.v (.slice none 0 bc)) (.v (.slice (some ca) cl cc)) k i a s)) (oOu w M) kOu iOu F = VT.leaf (AX.normal, [AV.v (Value.slice none 0 bc), AV.v (Value.slice (some ca) cl cc), AV.ptr 0 0, AV.slice 1101 0 k' 4 (Cp.lo k'), AV.v (Value.int IntKind.i64 (Int.ofNat e)), AV.v (Value.int IntKind.i64 (Int.ofNat s')), AV.v (Value.int IntKind.i64 (Int.ofNat (i + 1)))], 69) [some (AO.own Md.nothing (exHP (parR w') parL)), none, none, some (AO.own Md.nothing (exHP (fun R => R.length = M'.length) (outL M'))), none, none, none] 1102 (((Cnd.p (Wk (AV.v (Value.bool (decide (Int.ofNat i ≤ ↑cl)))) (AV.lit true))).a Cnd.t).a (((Cnd.p (Wk (AV.v (Value.int IntKind.i64 (IntKind.i64.wrap (Int.ofNat 0 - Int.ofNat a)))) (AV.v (Value.int IntKind.i64 (Int.ofNat d))))).a Cnd.t).a (((Cnd.p (Wk (AV.v (Value.bool (decide (Int.ofNat i < ↑cl)))) (AV.lit false))).a Cnd.t).a (((Cnd.p (Wk (AV.v (Value.int IntKind.i64 (IntKind.i64.wrap (Int.ofNat a + Int.ofNat d)))) (AV.v (Value.int IntKind.i64 (Int.ofNat e))))).a Cnd.t).a (((Cnd.p (a ≤ e)).a ((Cnd.p (e ≤ bc)).a ((Cnd.p (Wk (AV.v (match a with | 0 => Value.slice none e bc | l + 1 => Value.slice (if bc = l + 1 then none else Option.map (fun x : Addr => x.add ((l + 1) * 1)) none) (e - (l + 1)) (bc - (l + 1)))) (AV.v (Value.slice none 0 yc)))).a Cnd.t))).a (((Cnd.p (0 = 0)).a Cnd.t).a (((Cnd.p True).a ((Cnd.p (VW [AV.ptr 0 0, AV.slice 1100 0 0 1 (Cp.ex 0)] [AV.ptr 0 0, AV.slice 1100 0 0 1 (Cp.lo 0)])).a ((Cnd.p (OW (AO.own Md.nothing (exHP (parR w) parL)) (AO.own Md.nothing (exHP (parR w) parL)))).a ((Cnd.p (OW (AO.cells (rep [AV.v (Value.int IntKind.u8 (Int.ofNat 0))] 0) 10) (AO.cells [] 10))).a Cnd.t)))).a (((Cnd.p (Wk (AV.v (Value.int IntKind.i64 (IntKind.i64.wrap (Int.ofNat a + Int.ofNat d)))) (AV.v (Value.int IntKind.i64 (Int.ofNat e))))).a Cnd.t).a ((Cnd.p ((fTold, 13, loopN fTold 13, lIn (AV.v (Value.slice none 0 bc)) (AV.v (Value.slice (some ca) cl cc)) (w ++ []) w' M M' k k' i e s').snd.snd.fst = (fTold, 13, loopN fTold 13, lIn (AV.v (Value.slice none 0 bc)) (AV.v (Value.slice (some ca) cl cc)) (w ++ []) w' M M' k k' i e s').snd.snd.fst)).a ((Cnd.p True).a ((Cnd.p (VW [AV.v (Value.slice none 0 bc), AV.v (Value.slice (some ca) cl cc), AV.any, AV.any, AV.any, AV.any, AV.any, AV.ptr 0 0, AV.slice 1001 0 k 4 (Cp.lo k), AV.v (Value.int IntKind.i64 (Int.ofNat e)), AV.v (Value.int IntKind.i64 (Int.ofNat s)), AV.v (Value.int IntKind.i64 (Int.ofNat i)), AV.v (Value.int IntKind.i64 (Int.ofNat d)), AV.any, AV.any, AV.any, AV.any, AV.any, AV.any, AV.any, AV.v (Value.int IntKind.i64 (Int.ofNat i)), AV.v (Value.slice (some ca) cl cc), AV.v (Value.int IntKind.i64 ↑cl), AV.lit true, AV.any, AV.any, AV.v (Value.slice none 0 bc), AV.v (Value.int IntKind.i64 (Int.ofNat 0)), AV.v (Value.int IntKind.i64 (Int.ofNat a)), AV.v (Value.int IntKind.i64 (Int.ofNat d)), AV.v (Value.int IntKind.i64 (Int.ofNat i)), AV.v (Value.slice (some ca) cl cc), AV.v (Value.int IntKind.i64 ↑cl), AV.lit false, AV.any, AV.any, AV.any, AV.any, AV.any, AV.any, AV.any, AV.ptr 0 0, AV.slice 1100 0 0 1 (Cp.ex 0), AV.v (Value.slice none 0 bc), AV.v (Value.int IntKind.i64 (Int.ofNat a)), AV.v (Value.int IntKind.i64 (Int.ofNat a)), AV.v (Value.int IntKind.i64 (Int.ofNat d)), AV.v (Value.int IntKind.i64 (Int.ofNat e)), AV.v (Value.slice none 0 yc), AV.slice 1100 0 0 1 (Cp.ex 0), AV.tuple [], AV.v (Value.int IntKind.i64 (Int.ofNat a)), AV.v (Value.int IntKind.i64 (Int.ofNat d)), AV.v (Value.int IntKind.i64 (Int.ofNat e)), AV.any, AV.any, AV.any, AV.any, AV.any, AV.any, AV.any, AV.any, AV.any, AV.any, AV.any, AV.any, AV.any, AV.any, AV.any] [AV.v (Value.slice none 0 bc), AV.v (Value.slice (some ca) cl cc), AV.any, AV.any, AV.any, AV.any, AV.any, AV.ptr 0 0, AV.slice 1001 0 k 4 (Cp.lo k), AV.v (Value.int IntKind.i64 (Int.ofNat e)), AV.any, AV.v (Value.int IntKind.i64 (Int.ofNat i)), AV.any, AV.any, AV.any, AV.any, AV.any, AV.any, AV.any, AV.any, AV.any, AV.any, AV.any, AV.any, AV.any, AV.any, AV.any, AV.any, AV.any, AV.any, AV.any, AV.any, AV.any, AV.any, AV.any, AV.any, AV.any, AV.any, AV.any, AV.any, AV.any, AV.any, AV.any, AV.any, AV.any, AV.any, AV.any, AV.any, AV.any, AV.any, AV.any, AV.any, AV.any, AV.any, AV.any, AV.any, AV.any, AV.any, AV.any, AV.any, AV.any, AV.any, AV.any, AV.any, AV.any, AV.any, AV.any, AV.any, AV.any])).a ((Cnd.p (OW (AO.own Md.nothing (exHP (fun R => R.length = M.length) (outL M))) (AO.own Md.nothing (exHP (fun R => R.length = M.length) (outL M))))).a ((Cnd.p (OW (AO.own Md.nothing (exHP (parR (w ++ [])) parL)) (AO.own Md.nothing (exHP (parR (w ++ [])) parL)))).a (((Cnd.p (Wk (AV.v (Value.int IntKind.i64 (IntKind.i64.wrap (Int.ofNat i + Int.ofNat 1)))) (AV.v (Value.int IntKind.i64 (Int.ofNat (i + 1)))))).a Cnd.t).a Cnd.t)))))))))))))) := by kernel_rfl
theorem oOuFNL_eq (W : World) (ba ca ya : Addr) (bl bc cl cc yc : Nat) (w w' x : List UInt8) (M M' : List Rqm) (d n e i a k k' s s' : Nat) (z y : Int) (F : HP) : wLoop [(fFeed, cFe w x)] (hintL (hOu d n e i z y false ++ [(fTold, 11, 7, h0v (.v (.slice (some ya) n yc))), (fTold, 11, 8, hvo (sB 1101 n) 1101 (rB x))])) [(fTold, 13, loopN fTold 13, lIn (.v (.slice (some ba) bl bc)) (.v (.slice none 0 cc)) (w ++ x) w' M M' k k' i e s')] W fTold (loopN fTold 6) (tms 0 69 (aOu (.v (.slice (some ba) bl bc)) (.v (.slice none 0 cc)) k i a s)) (oOu w M) kOu iOu F = VT.leaf (AX.normal, [AV.v (Value.slice (some ba) bl bc), AV.v (Value.slice none 0 cc), AV.ptr 0 0, AV.slice 1102 0 k' 4 (Cp.lo k'), AV.v (Value.int IntKind.i64 (Int.ofNat e)), AV.v (Value.int IntKind.i64 (Int.ofNat s')), AV.v (Value.int IntKind.i64 (Int.ofNat (i + 1)))], 69) [some (AO.own Md.nothing (exHP (parR w') parL)), none, some (AO.cells (rep [AV.v (Value.int IntKind.u8 (Int.ofNat 0))] 0) 10), none, some (AO.own Md.nothing (exHP (fun R => R.length = M'.length) (outL M'))), none, none] 1103 (((Cnd.p (Wk (AV.v (Value.bool (decide (Int.ofNat i ≤ Int.ofNat 0)))) (AV.lit true))).a Cnd.t).a (((Cnd.p (Wk (AV.v (Value.int IntKind.i64 (IntKind.i64.wrap (↑bl - Int.ofNat a)))) (AV.v (Value.int IntKind.i64 (Int.ofNat d))))).a Cnd.t).a (((Cnd.p (Wk (AV.v (Value.bool false)) (AV.lit false))).a Cnd.t).a (((Cnd.p (Wk (AV.v (Value.int IntKind.i64 (IntKind.i64.wrap (Int.ofNat a + Int.ofNat d)))) (AV.v (Value.int IntKind.i64 (Int.ofNat e))))).a Cnd.t).a (((Cnd.p (a ≤ e)).a ((Cnd.p (e ≤ bc)).a ((Cnd.p (Wk (AV.v (match a with | 0 => Value.slice (some ba) e bc | l + 1 => Value.slice (if bc = l + 1 then some ba else Option.map (fun x : Addr => x.add ((l + 1) * 1)) (some ba)) (e - (l + 1)) (bc - (l + 1)))) (AV.v (Value.slice (some ya) n yc)))).a Cnd.t))).a (((Cnd.p (n.ble n = true)).a ((Cnd.p (((List.range (n * 1)).all fun j => (W.cell? (ya.add j)).isSome) = true)).a ((Cnd.p ((vmap (oldCells W ya (n * 1))).all AV.one = true)).a ((Cnd.p (Nat.blt 0 n = true)).a ((Cnd.p (true = true)).a ((Cnd.p (((0 + n) * 1).ble 140737488355328 = true)).a ((Cnd.p ((0 + n).ble 9223372036854775807 = true)).a ((Cnd.p (true = true)).a ((Cnd.p (Nat.blt 0 (0 + n) = true)).a ((Cnd.p (OW (AO.cells ([] ++ vmap (oldCells W ya (n * 1))) 10) (AO.cells (rowV encB x) 10))).a ((Cnd.p (Wk (AV.slice 1101 0 (0 + n) 1 (Cp.lo (0 + n))) (AV.slice 1101 0 n 1 (Cp.lo n)))).a Cnd.t))))))))))).a (((Cnd.p True).a ((Cnd.p (VW [AV.ptr 0 0, AV.slice 1101 0 n 1 (Cp.lo n)] [AV.ptr 0 0, AV.slice 1101 0 x.length 1 (Cp.lo x.length)])).a ((Cnd.p (OW (AO.own Md.nothing (exHP (parR w) parL)) (AO.own Md.nothing (exHP (parR w) parL)))).a ((Cnd.p (OW (AO.cells (rowV encB x) 10) (AO.cells (AV.rens (nmFe (0, 1101)) (rowV encB x)) 10))).a Cnd.t)))).a (((Cnd.p (Wk (AV.v (Value.int IntKind.i64 (IntKind.i64.wrap (Int.ofNat a + Int.ofNat d)))) (AV.v (Value.int IntKind.i64 (Int.ofNat e))))).a Cnd.t).a ((Cnd.p ((fTold, 13, loopN fTold 13, lIn (AV.v (Value.slice (some ba) bl bc)) (AV.v (Value.slice none 0 cc)) (w ++ x) w' M M' k k' i e s').snd.snd.fst = (fTold, 13, loopN fTold 13, lIn (AV.v (Value.slice (some ba) bl bc)) (AV.v (Value.slice none 0 cc)) (w ++ x) w' M M' k k' i e s').snd.snd.fst)).a ((Cnd.p True).a ((Cnd.p (VW [AV.v (Value.slice (some ba) bl bc), AV.v (Value.slice none 0 cc), AV.any, AV.any, AV.any, AV.any, AV.any, AV.ptr 0 0, AV.slice 1001 0 k 4 (Cp.lo k), AV.v (Value.int IntKind.i64 (Int.ofNat e)), AV.v (Value.int IntKind.i64 (Int.ofNat s)), AV.v (Value.int IntKind.i64 (Int.ofNat i)), AV.v (Value.int IntKind.i64 (Int.ofNat d)), AV.any, AV.any, AV.any, AV.any, AV.any, AV.any, AV.any, AV.v (Value.int IntKind.i64 (Int.ofNat i)), AV.v (Value.slice none 0 cc), AV.v (Value.int IntKind.i64 (Int.ofNat 0)), AV.lit true, AV.any, AV.any, AV.v (Value.slice (some ba) bl bc), AV.v (Value.int IntKind.i64 ↑bl), AV.v (Value.int IntKind.i64 (Int.ofNat a)), AV.v (Value.int IntKind.i64 (Int.ofNat d)), AV.v (Value.int IntKind.i64 (Int.ofNat i)), AV.v (Value.slice none 0 cc), AV.v (Value.int IntKind.i64 (Int.ofNat 0)), AV.lit false, AV.any, AV.any, AV.any, AV.any, AV.any, AV.any, AV.any, AV.ptr 0 0, AV.slice 1100 0 0 1 (Cp.ex 0), AV.v (Value.slice (some ba) bl bc), AV.v (Value.int IntKind.i64 (Int.ofNat a)), AV.v (Value.int IntKind.i64 (Int.ofNat a)), AV.v (Value.int IntKind.i64 (Int.ofNat d)), AV.v (Value.int IntKind.i64 (Int.ofNat e)), AV.v (Value.slice (some ya) n yc), AV.slice 1101 0 n 1 (Cp.lo n), AV.tuple [], AV.v (Value.int IntKind.i64 (Int.ofNat a)), AV.v (Value.int IntKind.i64 (Int.ofNat d)), AV.v (Value.int IntKind.i64 (Int.ofNat e)), AV.any, AV.any, AV.any, AV.any, AV.any, AV.any, AV.any, AV.any, AV.any, AV.any, AV.any, AV.any, AV.any, AV.any, AV.any] [AV.v (Value.slice (some ba) bl bc), AV.v (Value.slice none 0 cc), AV.any, AV.any, AV.any, AV.any, AV.any, AV.ptr 0 0, AV.slice 1001 0 k 4 (Cp.lo k), AV.v (Value.int IntKind.i64 (Int.ofNat e)), AV.any, AV.v (Value.int IntKind.i64 (Int.ofNat i)), AV.any, AV.any, AV.any, AV.any, AV.any, AV.any, AV.any, AV.any, AV.any, AV.any, AV.any, AV.any, AV.any, AV.any, AV.any, AV.any, AV.any, AV.any, AV.any, AV.any, AV.any, AV.any, AV.any, AV.any, AV.any, AV.any, AV.any, AV.any, AV.any, AV.any, AV.any, AV.any, AV.any, AV.any, AV.any, AV.any, AV.any, AV.any, AV.any, AV.any, AV.any, AV.any, AV.any, AV.any, AV.any, AV.any, AV.any, AV.any, AV.any, AV.any, AV.any, AV.any, AV.any, AV.any, AV.any, AV.any, AV.any])).a ((Cnd.p (OW (AO.own Md.nothing (exHP (fun R => R.length = M.length) (outL M))) (AO.own Md.nothing (exHP (fun R => R.length = M.length) (outL M))))).a ((Cnd.p (OW (AO.own Md.nothing (exHP (parR (w ++ x)) parL)) (AO.own Md.nothing (exHP (parR (w ++ x)) parL)))).a (((Cnd.p (Wk (AV.v (Value.int IntKind.i64 (IntKind.i64.wrap (Int.ofNat i + Int.ofNat 1)))) (AV.v (Value.int IntKind.i64 (Int.ofNat (i + 1)))))).a Cnd.t).a Cnd.t)))))))))))))) := by kernel_rfl
theorem oOuENL_eq (W : World) (ba ca ya : Addr) (bl bc cl cc yc : Nat) (w w' x : List UInt8) (M M' : List Rqm) (d n e i a k k' s s' : Nat) (z y : Int) (F : HP) : wLoop [(fFeed, cFe w [])] (hintL (hOu d 0 e i z y false ++ [(fTold, 11, 7, h0v (.v (.slice (some ya) 0 yc))), (fTold, 11, 8, h0)])) [(fTold, 13, loopN fTold 13, lIn (.v (.slice (some ba) bl bc)) (.v (.slice none 0 cc)) (w ++ []) w' M M' k k' i e s')] W fTold (loopN fTold 6) (tms 0 69 (aOu (.v (.slice (some ba) bl bc)) (.v (.slice none 0 cc)) k i a s)) (oOu w M) kOu iOu F = VT.leaf (AX.normal, [AV.v (Value.slice (some ba) bl bc), AV.v (Value.slice none 0 cc), AV.ptr 0 0, AV.slice 1101 0 k' 4 (Cp.lo k'), AV.v (Value.int IntKind.i64 (Int.ofNat e)), AV.v (Value.int IntKind.i64 (Int.ofNat s')), AV.v (Value.int IntKind.i64 (Int.ofNat (i + 1)))], 69) [some (AO.own Md.nothing (exHP (parR w') parL)), none, none, some (AO.own Md.nothing (exHP (fun R => R.length = M'.length) (outL M'))), none, none, none] 1102 (((Cnd.p (Wk (AV.v (Value.bool (decide (Int.ofNat i ≤ Int.ofNat 0)))) (AV.lit true))).a Cnd.t).a (((Cnd.p (Wk (AV.v (Value.int IntKind.i64 (IntKind.i64.wrap (↑bl - Int.ofNat a)))) (AV.v (Value.int IntKind.i64 (Int.ofNat d))))).a Cnd.t).a (((Cnd.p (Wk (AV.v (Value.bool false)) (AV.lit false))).a Cnd.t).a (((Cnd.p (Wk (AV.v (Value.int IntKind.i64 (IntKind.i64.wrap (Int.ofNat a + Int.ofNat d)))) (AV.v (Value.int IntKind.i64 (Int.ofNat e))))).a Cnd.t).a (((Cnd.p (a ≤ e)).a ((Cnd.p (e ≤ bc)).a ((Cnd.p (Wk (AV.v (match a with | 0 => Value.slice (some ba) e bc | l + 1 => Value.slice (if bc = l + 1 then some ba else Option.map (fun x : Addr => x.add ((l + 1) * 1)) (some ba)) (e - (l + 1)) (bc - (l + 1)))) (AV.v (Value.slice (some ya) 0 yc)))).a Cnd.t))).a (((Cnd.p (0 = 0)).a Cnd.t).a (((Cnd.p True).a ((Cnd.p (VW [AV.ptr 0 0, AV.slice 1100 0 0 1 (Cp.ex 0)] [AV.ptr 0 0, AV.slice 1100 0 0 1 (Cp.lo 0)])).a ((Cnd.p (OW (AO.own Md.nothing (exHP (parR w) parL)) (AO.own Md.nothing (exHP (parR w) parL)))).a ((Cnd.p (OW (AO.cells (rep [AV.v (Value.int IntKind.u8 (Int.ofNat 0))] 0) 10) (AO.cells [] 10))).a Cnd.t)))).a (((Cnd.p (Wk (AV.v (Value.int IntKind.i64 (IntKind.i64.wrap (Int.ofNat a + Int.ofNat d)))) (AV.v (Value.int IntKind.i64 (Int.ofNat e))))).a Cnd.t).a ((Cnd.p ((fTold, 13, loopN fTold 13, lIn (AV.v (Value.slice (some ba) bl bc)) (AV.v (Value.slice none 0 cc)) (w ++ []) w' M M' k k' i e s').snd.snd.fst = (fTold, 13, loopN fTold 13, lIn (AV.v (Value.slice (some ba) bl bc)) (AV.v (Value.slice none 0 cc)) (w ++ []) w' M M' k k' i e s').snd.snd.fst)).a ((Cnd.p True).a ((Cnd.p (VW [AV.v (Value.slice (some ba) bl bc), AV.v (Value.slice none 0 cc), AV.any, AV.any, AV.any, AV.any, AV.any, AV.ptr 0 0, AV.slice 1001 0 k 4 (Cp.lo k), AV.v (Value.int IntKind.i64 (Int.ofNat e)), AV.v (Value.int IntKind.i64 (Int.ofNat s)), AV.v (Value.int IntKind.i64 (Int.ofNat i)), AV.v (Value.int IntKind.i64 (Int.ofNat d)), AV.any, AV.any, AV.any, AV.any, AV.any, AV.any, AV.any, AV.v (Value.int IntKind.i64 (Int.ofNat i)), AV.v (Value.slice none 0 cc), AV.v (Value.int IntKind.i64 (Int.ofNat 0)), AV.lit true, AV.any, AV.any, AV.v (Value.slice (some ba) bl bc), AV.v (Value.int IntKind.i64 ↑bl), AV.v (Value.int IntKind.i64 (Int.ofNat a)), AV.v (Value.int IntKind.i64 (Int.ofNat d)), AV.v (Value.int IntKind.i64 (Int.ofNat i)), AV.v (Value.slice none 0 cc), AV.v (Value.int IntKind.i64 (Int.ofNat 0)), AV.lit false, AV.any, AV.any, AV.any, AV.any, AV.any, AV.any, AV.any, AV.ptr 0 0, AV.slice 1100 0 0 1 (Cp.ex 0), AV.v (Value.slice (some ba) bl bc), AV.v (Value.int IntKind.i64 (Int.ofNat a)), AV.v (Value.int IntKind.i64 (Int.ofNat a)), AV.v (Value.int IntKind.i64 (Int.ofNat d)), AV.v (Value.int IntKind.i64 (Int.ofNat e)), AV.v (Value.slice (some ya) 0 yc), AV.slice 1100 0 0 1 (Cp.ex 0), AV.tuple [], AV.v (Value.int IntKind.i64 (Int.ofNat a)), AV.v (Value.int IntKind.i64 (Int.ofNat d)), AV.v (Value.int IntKind.i64 (Int.ofNat e)), AV.any, AV.any, AV.any, AV.any, AV.any, AV.any, AV.any, AV.any, AV.any, AV.any, AV.any, AV.any, AV.any, AV.any, AV.any] [AV.v (Value.slice (some ba) bl bc), AV.v (Value.slice none 0 cc), AV.any, AV.any, AV.any, AV.any, AV.any, AV.ptr 0 0, AV.slice 1001 0 k 4 (Cp.lo k), AV.v (Value.int IntKind.i64 (Int.ofNat e)), AV.any, AV.v (Value.int IntKind.i64 (Int.ofNat i)), AV.any, AV.any, AV.any, AV.any, AV.any, AV.any, AV.any, AV.any, AV.any, AV.any, AV.any, AV.any, AV.any, AV.any, AV.any, AV.any, AV.any, AV.any, AV.any, AV.any, AV.any, AV.any, AV.any, AV.any, AV.any, AV.any, AV.any, AV.any, AV.any, AV.any, AV.any, AV.any, AV.any, AV.any, AV.any, AV.any, AV.any, AV.any, AV.any, AV.any, AV.any, AV.any, AV.any, AV.any, AV.any, AV.any, AV.any, AV.any, AV.any, AV.any, AV.any, AV.any, AV.any, AV.any, AV.any, AV.any, AV.any])).a ((Cnd.p (OW (AO.own Md.nothing (exHP (fun R => R.length = M.length) (outL M))) (AO.own Md.nothing (exHP (fun R => R.length = M.length) (outL M))))).a ((Cnd.p (OW (AO.own Md.nothing (exHP (parR (w ++ [])) parL)) (AO.own Md.nothing (exHP (parR (w ++ [])) parL)))).a (((Cnd.p (Wk (AV.v (Value.int IntKind.i64 (IntKind.i64.wrap (Int.ofNat i + Int.ofNat 1)))) (AV.v (Value.int IntKind.i64 (Int.ofNat (i + 1)))))).a Cnd.t).a Cnd.t)))))))))))))) := by kernel_rfl
theorem oOuZNL_eq (W : World) (ba ca ya : Addr) (bl bc cl cc yc : Nat) (w w' x : List UInt8) (M M' : List Rqm) (d n e i a k k' s s' : Nat) (z y : Int) (F : HP) : wLoop [(fFeed, cFe w [])] (hintL (hOu d 0 e i z y false ++ [(fTold, 11, 7, h0v (.v (.slice none 0 yc))), (fTold, 11, 8, h0)])) [(fTold, 13, loopN fTold 13, lIn (.v (.slice none 0 bc)) (.v (.slice none 0 cc)) (w ++ []) w' M M' k k' i e s')] W fTold (loopN fTold 6) (tms 0 69 (aOu (.v (.slice none 0 bc)) (.v (.slice none 0 cc)) k i a s)) (oOu w M) kOu iOu F = VT.leaf (AX.normal, [AV.v (Value.slice none 0 bc), AV.v (Value.slice none 0 cc), AV.ptr 0 0, AV.slice 1101 0 k' 4 (Cp.lo k'), AV.v (Value.int IntKind.i64 (Int.ofNat e)), AV.v (Value.int IntKind.i64 (Int.ofNat s')), AV.v (Value.int IntKind.i64 (Int.ofNat (i + 1)))], 69) [some (AO.own Md.nothing (exHP (parR w') parL)), none, none, some (AO.own Md.nothing (exHP (fun R => R.length = M'.length) (outL M'))), none, none, none] 1102 (((Cnd.p (Wk (AV.v (Value.bool (decide (Int.ofNat i ≤ Int.ofNat 0)))) (AV.lit true))).a Cnd.t).a (((Cnd.p (Wk (AV.v (Value.int IntKind.i64 (IntKind.i64.wrap (Int.ofNat 0 - Int.ofNat a)))) (AV.v (Value.int IntKind.i64 (Int.ofNat d))))).a Cnd.t).a (((Cnd.p (Wk (AV.v (Value.bool false)) (AV.lit false))).a Cnd.t).a (((Cnd.p (Wk (AV.v (Value.int IntKind.i64 (IntKind.i64.wrap (Int.ofNat a + Int.ofNat d)))) (AV.v (Value.int IntKind.i64 (Int.ofNat e))))).a Cnd.t).a (((Cnd.p (a ≤ e)).a ((Cnd.p (e ≤ bc)).a ((Cnd.p (Wk (AV.v (match a with | 0 => Value.slice none e bc | l + 1 => Value.slice (if bc = l + 1 then none else Option.map (fun x : Addr => x.add ((l + 1) * 1)) none) (e - (l + 1)) (bc - (l + 1)))) (AV.v (Value.slice none 0 yc)))).a Cnd.t))).a (((Cnd.p (0 = 0)).a Cnd.t).a (((Cnd.p True).a ((Cnd.p (VW [AV.ptr 0 0, AV.slice 1100 0 0 1 (Cp.ex 0)] [AV.ptr 0 0, AV.slice 1100 0 0 1 (Cp.lo 0)])).a ((Cnd.p (OW (AO.own Md.nothing (exHP (parR w) parL)) (AO.own Md.nothing (exHP (parR w) parL)))).a ((Cnd.p (OW (AO.cells (rep [AV.v (Value.int IntKind.u8 (Int.ofNat 0))] 0) 10) (AO.cells [] 10))).a Cnd.t)))).a (((Cnd.p (Wk (AV.v (Value.int IntKind.i64 (IntKind.i64.wrap (Int.ofNat a + Int.ofNat d)))) (AV.v (Value.int IntKind.i64 (Int.ofNat e))))).a Cnd.t).a ((Cnd.p ((fTold, 13, loopN fTold 13, lIn (AV.v (Value.slice none 0 bc)) (AV.v (Value.slice none 0 cc)) (w ++ []) w' M M' k k' i e s').snd.snd.fst = (fTold, 13, loopN fTold 13, lIn (AV.v (Value.slice none 0 bc)) (AV.v (Value.slice none 0 cc)) (w ++ []) w' M M' k k' i e s').snd.snd.fst)).a ((Cnd.p True).a ((Cnd.p (VW [AV.v (Value.slice none 0 bc), AV.v (Value.slice none 0 cc), AV.any, AV.any, AV.any, AV.any, AV.any, AV.ptr 0 0, AV.slice 1001 0 k 4 (Cp.lo k), AV.v (Value.int IntKind.i64 (Int.ofNat e)), AV.v (Value.int IntKind.i64 (Int.ofNat s)), AV.v (Value.int IntKind.i64 (Int.ofNat i)), AV.v (Value.int IntKind.i64 (Int.ofNat d)), AV.any, AV.any, AV.any, AV.any, AV.any, AV.any, AV.any, AV.v (Value.int IntKind.i64 (Int.ofNat i)), AV.v (Value.slice none 0 cc), AV.v (Value.int IntKind.i64 (Int.ofNat 0)), AV.lit true, AV.any, AV.any, AV.v (Value.slice none 0 bc), AV.v (Value.int IntKind.i64 (Int.ofNat 0)), AV.v (Value.int IntKind.i64 (Int.ofNat a)), AV.v (Value.int IntKind.i64 (Int.ofNat d)), AV.v (Value.int IntKind.i64 (Int.ofNat i)), AV.v (Value.slice none 0 cc), AV.v (Value.int IntKind.i64 (Int.ofNat 0)), AV.lit false, AV.any, AV.any, AV.any, AV.any, AV.any, AV.any, AV.any, AV.ptr 0 0, AV.slice 1100 0 0 1 (Cp.ex 0), AV.v (Value.slice none 0 bc), AV.v (Value.int IntKind.i64 (Int.ofNat a)), AV.v (Value.int IntKind.i64 (Int.ofNat a)), AV.v (Value.int IntKind.i64 (Int.ofNat d)), AV.v (Value.int IntKind.i64 (Int.ofNat e)), AV.v (Value.slice none 0 yc), AV.slice 1100 0 0 1 (Cp.ex 0), AV.tuple [], AV.v (Value.int IntKind.i64 (Int.ofNat a)), AV.v (Value.int IntKind.i64 (Int.ofNat d)), AV.v (Value.int IntKind.i64 (Int.ofNat e)), AV.any, AV.any, AV.any, AV.any, AV.any, AV.any, AV.any, AV.any, AV.any, AV.any, AV.any, AV.any, AV.any, AV.any, AV.any] [AV.v (Value.slice none 0 bc), AV.v (Value.slice none 0 cc), AV.any, AV.any, AV.any, AV.any, AV.any, AV.ptr 0 0, AV.slice 1001 0 k 4 (Cp.lo k), AV.v (Value.int IntKind.i64 (Int.ofNat e)), AV.any, AV.v (Value.int IntKind.i64 (Int.ofNat i)), AV.any, AV.any, AV.any, AV.any, AV.any, AV.any, AV.any, AV.any, AV.any, AV.any, AV.any, AV.any, AV.any, AV.any, AV.any, AV.any, AV.any, AV.any, AV.any, AV.any, AV.any, AV.any, AV.any, AV.any, AV.any, AV.any, AV.any, AV.any, AV.any, AV.any, AV.any, AV.any, AV.any, AV.any, AV.any, AV.any, AV.any, AV.any, AV.any, AV.any, AV.any, AV.any, AV.any, AV.any, AV.any, AV.any, AV.any, AV.any, AV.any, AV.any, AV.any, AV.any, AV.any, AV.any, AV.any, AV.any, AV.any])).a ((Cnd.p (OW (AO.own Md.nothing (exHP (fun R => R.length = M.length) (outL M))) (AO.own Md.nothing (exHP (fun R => R.length = M.length) (outL M))))).a ((Cnd.p (OW (AO.own Md.nothing (exHP (parR (w ++ [])) parL)) (AO.own Md.nothing (exHP (parR (w ++ [])) parL)))).a (((Cnd.p (Wk (AV.v (Value.int IntKind.i64 (IntKind.i64.wrap (Int.ofNat i + Int.ofNat 1)))) (AV.v (Value.int IntKind.i64 (Int.ofNat (i + 1)))))).a Cnd.t).a Cnd.t)))))))))))))) := by kernel_rfl
theorem oOuXS_eq (W : World) (b : Value) (ca : Addr) (cl cc : Nat) (w : List UInt8) (M : List Rqm) (i a k s : Nat) (F : HP) : wLoop [] (hintL [(fTold, 6, 3, hv (.lit false))]) [] W fTold (loopN fTold 6) (tms 0 69 (aOu (.v b) (.v (.slice (some ca) cl cc)) k i a s)) (oOu w M) kOu iOu F = VT.leaf (AX.exit 0, [AV.v b, AV.v (Value.slice (some ca) cl cc), AV.ptr 0 0, AV.slice 1001 0 k 4 (Cp.lo k), AV.v (Value.int IntKind.i64 (Int.ofNat a)), AV.v (Value.int IntKind.i64 (Int.ofNat s)), AV.v (Value.int IntKind.i64 (Int.ofNat i))], 69) [some (AO.own Md.nothing (exHP (parR w) parL)), some (AO.own Md.nothing (exHP (fun R => R.length = M.length) (outL M))), none, none, none, none, none] 1100 (((Cnd.p (Wk (AV.v (Value.bool (decide (Int.ofNat i ≤ ↑cl)))) (AV.lit false))).a Cnd.t).a Cnd.t) := by kernel_rfl
theorem oOuXN_eq (W : World) (b : Value) (ca : Addr) (cl cc : Nat) (w : List UInt8) (M : List Rqm) (i a k s : Nat) (F : HP) : wLoop [] (hintL [(fTold, 6, 3, hv (.lit false))]) [] W fTold (loopN fTold 6) (tms 0 69 (aOu (.v b) (.v (.slice none 0 cc)) k i a s)) (oOu w M) kOu iOu F = VT.leaf (AX.exit 0, [AV.v b, AV.v (Value.slice none 0 cc), AV.ptr 0 0, AV.slice 1001 0 k 4 (Cp.lo k), AV.v (Value.int IntKind.i64 (Int.ofNat a)), AV.v (Value.int IntKind.i64 (Int.ofNat s)), AV.v (Value.int IntKind.i64 (Int.ofNat i))], 69) [some (AO.own Md.nothing (exHP (parR w) parL)), some (AO.own Md.nothing (exHP (fun R => R.length = M.length) (outL M))), none, none, none, none, none] 1100 (((Cnd.p (Wk (AV.v (Value.bool (decide (Int.ofNat i ≤ Int.ofNat 0)))) (AV.lit false))).a Cnd.t).a Cnd.t) := by kernel_rfl
def gOu : List AV → AP (Nat × Nat) := fun tmps => match getL tmps 7, getL tmps 8 with
  | .ptr p _, .slice a _ _ _ _ => .ret (p, a)
  | _, _ => .fail "told"
def nmOu (p : Nat × Nat) : Nat → Nat := fun k => match Nat.beq k 0 with
  | true => p.1
  | false => match Nat.beq k 1001 with
    | true => p.2
    | false => k
def lOu (b c : AV) (M : List Rqm) (k s : Nat) : List AV → AP (AX × List AV) := mkL gOu (fun _ => True) nmOu (fun _ => tms 0 69 (aOu b c 0 0 0 0)) (fun _ => oOu [] []) (fun _ => .leaf (.exit 0) (tms 0 69 [(8, sQ 1001 k), (10, iv (Int.ofNat s))]) [(1001, outO M)])
theorem oTl_eq (W : World) (b c : Value) (M : List Rqm) (k s : Nat) (F : HP) : wRun [] (hintL [(fTold, 2, 1, hv (.lit false))]) [(fTold, 6, loopN fTold 6, lOu (.v b) (.v c) M k s)] W fTold [.v b, .v c] [] [1100, 1101, 1102] F = VT.leaf (AV.tuple [AV.slice 1102 0 k 4 (Cp.lo k), AV.v (Value.int IntKind.i64 (Int.ofNat s)), AV.v (Value.bool true)]) [none, none, some (AO.own Md.nothing (exHP (fun R => R.length = M.length) (outL M)))] 1103 (((Cnd.p (Wk (AV.v (Value.bool false)) (AV.lit false))).a Cnd.t).a ((Cnd.p ((fTold, 6, loopN fTold 6, lOu (AV.v b) (AV.v c) M k s).snd.snd.fst = (fTold, 6, loopN fTold 6, lOu (AV.v b) (AV.v c) M k s).snd.snd.fst)).a ((Cnd.p True).a ((Cnd.p (VW [AV.v b, AV.v c, AV.undef, AV.undef, AV.v (Value.slice none 0 0), AV.v (Value.int IntKind.i64 (Int.ofNat 0)), AV.v (Value.bool false), AV.ptr 1100 0, AV.slice 1101 0 0 4 (Cp.ex 0), AV.v (Value.int IntKind.i64 (Int.ofNat 0)), AV.v (Value.int IntKind.i64 (Int.ofNat 0)), AV.v (Value.int IntKind.i64 (Int.ofNat 0)), AV.undef, AV.undef, AV.undef, AV.undef, AV.ptr 1100 0, AV.ptr 1100 0, AV.lit false, AV.slice 1101 0 0 4 (Cp.ex 0), AV.undef, AV.undef, AV.undef, AV.undef, AV.undef, AV.undef, AV.undef, AV.undef, AV.undef, AV.undef, AV.undef, AV.undef, AV.undef, AV.undef, AV.undef, AV.undef, AV.undef, AV.undef, AV.undef, AV.undef, AV.undef, AV.undef, AV.undef, AV.undef, AV.undef, AV.undef, AV.undef, AV.undef, AV.undef, AV.undef, AV.undef, AV.undef, AV.undef, AV.undef, AV.undef, AV.undef, AV.undef, AV.undef, AV.undef, AV.undef, AV.undef, AV.undef, AV.undef, AV.undef, AV.undef, AV.undef, AV.undef, AV.undef, AV.undef] [AV.v b, AV.v c, AV.any, AV.any, AV.any, AV.any, AV.any, AV.ptr 1100 0, AV.slice 1101 0 0 4 (Cp.lo 0), AV.v (Value.int IntKind.i64 (Int.ofNat 0)), AV.v (Value.int IntKind.i64 (Int.ofNat 0)), AV.v (Value.int IntKind.i64 (Int.ofNat 0)), AV.any, AV.any, AV.any, AV.any, AV.any, AV.any, AV.any, AV.any, AV.any, AV.any, AV.any, AV.any, AV.any, AV.any, AV.any, AV.any, AV.any, AV.any, AV.any, AV.any, AV.any, AV.any, AV.any, AV.any, AV.any, AV.any, AV.any, AV.any, AV.any, AV.any, AV.any, AV.any, AV.any, AV.any, AV.any, AV.any, AV.any, AV.any, AV.any, AV.any, AV.any, AV.any, AV.any, AV.any, AV.any, AV.any, AV.any, AV.any, AV.any, AV.any, AV.any, AV.any, AV.any, AV.any, AV.any, AV.any, AV.any])).a ((Cnd.p (OW (AO.cells [AV.v (Value.slice none 0 0)] 122) (AO.own Md.nothing (exHP (parR []) parL)))).a ((Cnd.p (OW (AO.cells (rep [AV.v (Value.string (ByteArray.mk (Array.mk []))), AV.v (Value.string (ByteArray.mk (Array.mk []))), AV.v (Value.slice none 0 0), AV.v (Value.slice none 0 0)] 0) 64) (AO.own Md.nothing (exHP (fun R => R.length = 0) (outL []))))).a Cnd.t)))))) := by kernel_rfl
end
end Go.Proofs.YtpijbbobejeemaaGreatDoor.Htp

/- Http: told: the loop over the requests that are whole. -/
set_option linter.unusedVariables false
set_option linter.unusedSimpArgs false
set_option maxRecDepth 100000
namespace Go.Proofs.YtpijbbobejeemaaGreatDoor.Htp
open Go Go.RowKit Go.Proofs.YtpijbbobejeemaaGreatDoor.Eng Go.Proofs.YtpijbbobejeemaaGreatDoor.Kit Go.Proofs.YtpijbbobejeemaaGreatDoor.Tree
theorem parO_cl (w : List UInt8) (K : Nat → Bool) : (parO w).cl K := trivial
theorem outO_cl (M : List Rqm) (K : Nat → Bool) : (outO M).cl K := trivial
section
variable {W : World} {F : HP} (hW : LW W) (hF : OldOK W F)
include hW hF
theorem cNxN_ok {w : List UInt8} (hl : w.length ≤ 4000000) {s : Nat} (h : nextL hdB w = .no s) : C1OK Tryz.prog F fNext (cNxN w s) :=
  mkC_ok hF (fun _ => noV s) gP1_ro (fun _ => rfl) (fun _ _ => Next_no hW hl h) fun _ => ⟨rfl, rfl, ⟨rfl, trivial⟩, all_cons (parO_cl _ _) all_nil, noV_cl _ _, all_cons (parO_cl _ _) all_nil⟩
theorem cNxY_ok {w : List UInt8} (hl : w.length ≤ 4000000) {m t : ByteArray} {L : Hds} {B : List UInt8} {k : Nat} (h : nextL hdB w = .yes (m, t, L) B k) (hne : L ≠ []) : C1OK Tryz.prog F fNext (cNxY w (w.drop k) m t L B) :=
  mkC_ok hF (fun _ => .tuple [rqV m t (sP 1000 L.length) (sB 1001 B.length), bv true, iv (Int.ofNat 0)]) gP1_ro (fun _ => rfl) (fun _ _ => by
    have := Next_yes hW hl h
    cases L with
    | nil => exact absurd rfl hne
    | cons x r => exact this) fun _ => ⟨rfl, rfl, ⟨rfl, trivial⟩, all_cons (parO_cl _ _) all_nil, ⟨⟨⟨trivial, trivial, rfl, rfl, trivial⟩, trivial, trivial, trivial⟩, trivial⟩, all_cons (parO_cl _ _) (all_cons (rP_cl _ _) (all_cons (rB_cl _ _) all_nil))⟩
theorem cNxZ_ok {w : List UInt8} (hl : w.length ≤ 4000000) {m t : ByteArray} {B : List UInt8} {k : Nat} (h : nextL hdB w = .yes (m, t, []) B k) : C1OK Tryz.prog F fNext (cNxZ w (w.drop k) m t B) :=
  mkC_ok hF (fun _ => .tuple [rqV m t nilP (sB 1001 B.length), bv true, iv (Int.ofNat 0)]) gP1_ro (fun _ => rfl) (fun _ _ => Next_yes hW hl h) fun _ => ⟨rfl, rfl, ⟨rfl, trivial⟩, all_cons (parO_cl _ _) all_nil, ⟨⟨⟨trivial, trivial, trivial, rfl, trivial⟩, trivial, trivial, trivial⟩, trivial⟩, all_cons (parO_cl _ _) (all_cons (rB_cl _ _) all_nil)⟩
end
theorem rQ_len (R : List Rqr) : (rowV encQ R).length = R.length * 4 := rowV_length (k := 4) encQ_len R
theorem aIn_cl {b c : Value} {n i e : Nat} {K : Nat → Bool} (h1 : K 1 = true) (h2 : K 1001 = true) : AV.cls K (tms 0 69 (aIn (.v b) (.v c) 1001 n i e)) :=
  ⟨trivial, trivial, trivial, trivial, trivial, trivial, trivial, h1, h2, trivial, trivial, trivial, trivial, trivial, trivial, trivial, trivial, trivial, trivial, trivial, trivial, trivial, trivial, trivial, trivial, trivial, trivial, trivial, trivial, trivial, trivial, trivial, trivial, trivial, trivial, trivial, trivial, trivial, trivial, trivial, trivial, trivial, trivial, trivial, trivial, trivial, trivial, trivial, trivial, trivial, trivial, trivial, trivial, trivial, trivial, trivial, trivial, trivial, trivial, trivial, trivial, trivial, trivial, trivial, trivial, trivial, trivial, trivial, trivial, trivial⟩
theorem aInZ_cl {b c : Value} {n i e s : Nat} {K : Nat → Bool} (h1 : K 1 = true) (h2 : K 1001 = true) : AV.cls K (tms 0 69 ((10, iv (Int.ofNat s)) :: aIn (.v b) (.v c) 1001 n i e)) :=
  ⟨trivial, trivial, trivial, trivial, trivial, trivial, trivial, h1, h2, trivial, trivial, trivial, trivial, trivial, trivial, trivial, trivial, trivial, trivial, trivial, trivial, trivial, trivial, trivial, trivial, trivial, trivial, trivial, trivial, trivial, trivial, trivial, trivial, trivial, trivial, trivial, trivial, trivial, trivial, trivial, trivial, trivial, trivial, trivial, trivial, trivial, trivial, trivial, trivial, trivial, trivial, trivial, trivial, trivial, trivial, trivial, trivial, trivial, trivial, trivial, trivial, trivial, trivial, trivial, trivial, trivial, trivial, trivial, trivial, trivial⟩
theorem rens_app (σ : Nat → Nat) : ∀ a b : List AV, AV.rens σ (a ++ b) = AV.rens σ a ++ AV.rens σ b
  | [], b => rfl
  | x :: a, b => by rw [List.cons_append, AV.rens, rens_app σ a b, AV.rens, List.cons_append]
theorem row_ow {x y : List AV} {R : List Rqr} {σ : Nat → Nat} (h : x = rowV encQ R ++ AV.rens σ y) : OW (.cells x tRqs) ((AO.cells (rowV encQ R ++ y) tRqs).ren σ) := by
  rw [h]
  exact OW.of_eq (by rw [AO.ren, rens_app, rens_rowV])
theorem row_ow0 {R : List Rqr} {σ : Nat → Nat} : OW (.cells (rowV encQ R) tRqs) ((AO.cells (rowV encQ R) tRqs).ren σ) := OW.of_eq (by rw [AO.ren, rens_rowV])
theorem out_shut {W0 w : World} {F : HP} {N : Names} {R : List Rqr} {M : List Rqm} {v : List UInt8} {vs : List AV} {ys : List Value} (hv : ∀ K : Nat → Bool, K 1 = true → K 1001 = true → AV.cls K vs) (hs : St W0 F N (outN (parO v) R M) vs ys w) : St W0 F N [(1, parO v), (1001, outO M)] vs ys w :=
  st_whole (by rfl) (by rfl) hs 1001 1000 (by decide) (oi := .cells (rowV encQ R) tRqs) (o2 := outO M) (P := PQ R M) rfl rfl rfl rfl (fun n o h1 h2 hn => by
    simp only [getO] at hn
    by_cases e : n = 1
    · subst e; simp only [if_true] at hn; cases hn; rfl
    · simp only [e, h1, if_false] at hn; cases hn) (fun N1 Di Dk h1 h2 h3 h4 => out_core h1 h2 h3 h4) (hv _ rfl rfl) (all_cons trivial (all_cons trivial all_nil))
section
variable {W : World} (hW : LW W) (b c : Value) (i e : Nat) {M' : List Rqm} {s' : Nat} {w' : List UInt8} (hM : M'.length ≤ 4000000)
include hW hM
structure InS where
  R : List Rqr
  M : List Rqm
  w : List UInt8
theorem in_raw (q0 : {q : InS // q.R.length = q.M.length ∧ q.w.length ≤ 4000000 ∧ (q.M ++ (dr hdB q.w).1, (dr hdB q.w).2) = (M', s', w')}) :
    LTri Tryz.prog W (loopN fTold 13) (tms 0 69 (aIn (.v b) (.v c) 1001 q0.1.R.length i e)) (outN (parO q0.1.w) q0.1.R q0.1.M) (.exit 2) (tms 0 69 ((10, iv (Int.ofNat s')) :: aIn (.v b) (.v c) 1001 M'.length i e)) [(1, parO w'), (1001, outO M')] := by
  refine ltri_runE (W := W) (g := fTold) (b := loopN fTold 13) (σ := {q : InS // q.R.length = q.M.length ∧ q.w.length ≤ 4000000 ∧ (q.M ++ (dr hdB q.w).1, (dr hdB q.w).2) = (M', s', w')}) 69 (fun q => aIn (.v b) (.v c) 1001 q.1.R.length i e) (fun q => outN (parO q.1.w) q.1.R q.1.M) (.exit 2) ((10, iv (Int.ofNat s')) :: aIn (.v b) (.v c) 1001 M'.length i e) [(1, parO w'), (1001, outO M')] (fun q => q.1.w.length) kIn iIn (by intro h; cases h) (fun _ => rfl) ?_ q0
  rintro ⟨⟨R, M, w⟩, hR, hw, hI⟩
  simp only at hR hw hI
  simp only
  have hml : M.length ≤ M'.length := by
    have := congrArg (fun x => x.1.length) hI
    simp only [List.length_append] at this
    omega
  have k1 : (0 + R.length * 4).ble (rowV encQ R).length = true := by rw [rQ_len, Nat.ble_eq]; omega
  have k2 : (List.take (R.length * 4) (List.drop 0 (rowV encQ R))).length.beq (R.length * 4) = true := by
    rw [List.drop_zero, List.take_of_length_le (by rw [rQ_len]; exact Nat.le_refl _), rQ_len]; exact Nat.beq_refl _
  have k3 : List.take (R.length * 4) (List.drop 0 (rowV encQ R)) = rowV encQ R := by rw [List.drop_zero, List.take_of_length_le (by rw [rQ_len]; exact Nat.le_refl _)]
  have b1 : ((R.length + 1) * 80).ble 140737488355328 = true := ble_of (by omega)
  have b2 : (R.length + 1).ble 9223372036854775807 = true := ble_of (by omega)
  cases hn : nextL hdB w with
  | no s =>
    rw [dr_no hdB hn, List.append_nil] at hI
    obtain ⟨e1, e2⟩ := Prod.mk.inj hI
    obtain ⟨e2, e3⟩ := Prod.mk.inj e2
    subst e1 e2 e3
    refine ⟨[(fNext, cNxN w s)], hintL [(fTold, 15, 1, hv (.lit true))], [], fun F hF => one_c (cNxN_ok hW hF hw hn), fun _ _ => noL, fun F => ?_⟩
    refine cast (congrArg (VAll _) (oInX_eq W b c w R M R.length i e s F).symm) ⟨⟨?_, rfl, .inr ⟨rfl, (10, iv (Int.ofNat s)) :: aIn (.v b) (.v c) 1001 R.length i e, outN (parO w) R M, [(1000, 1000), (1001, 1001)], rfl, ⟨by kernel_rfl, by kernel_rfl, ⟨Wk.refl _, Wk.refl _, Wk.refl _, Wk.refl _, Wk.refl _, Wk.refl _, Wk.refl _, trivial⟩, ⟨_, rfl, OW.refl _⟩, ⟨_, rfl, OW.refl _⟩, ⟨_, rfl, row_ow0⟩, trivial⟩, fun W0 F N ys w hs => ?_⟩⟩⟩
    · simp only [Cnd.holds, k1, Nat.blt_eq, true_and, and_true]
      and_intros
      all_goals first
        | (with_reducible exact trivial)
        | (with_reducible exact rfl)
        | (with_reducible exact Wk.refl _)
        | (with_reducible exact VW.refl _)
        | (with_reducible exact OW.refl _)
        | (with_reducible exact wk_lit _)
        | (with_reducible assumption)
        | exact rfl
        | exact Wk.refl _
        | exact VW.refl _
        | exact OW.refl _
        | ((repeat (first | exact VW.nil | refine VW.cons (Wk.refl _) ?_ | refine VW.cons (Wk.any _) ?_ | refine VW.cons (wk_cap (Nat.le_refl _)) ?_)); done)
    · rw [hR] at hs
      exact out_shut (fun K h1 h2 => aInZ_cl h1 h2) hs
  | yes r B k =>
    obtain ⟨m, t, L⟩ := r
    obtain ⟨_, hk2, hkl⟩ := next_yes hdB [] hn
    have hd := dr_yes hdB hn
    have hwd : (w.drop k).length < w.length := by rw [List.length_drop]; omega
    have hI2 : ((M ++ [((m, t, L), B)]) ++ (dr hdB (w.drop k)).1, (dr hdB (w.drop k)).2) = (M', s', w') := by
      rw [← hI, hd]
      simp
    cases L with
    | nil =>
      refine ⟨[(fNext, cNxZ w (w.drop k) m t B)], hintL [(fTold, 15, 1, hv (.lit false))], [], fun F hF => one_c (cNxZ_ok hW hF hw hn), fun _ _ => noL, fun F => ?_⟩
      refine cast (congrArg (VAll _) (oInZ_eq W b c w (w.drop k) R M m t B R.length i e F).symm) ⟨⟨?_, rfl, .inl ⟨rfl, aIn (.v b) (.v c) 1001 (R.length + 1) i e, [(1, parO (w.drop k)), (1000, .any (frz (PQ R M))), (1001, .cells (rowV encQ R ++ [sv m, sv t, nilP, sB 1003 B.length]) tRqs), (1003, rB B)], [(1000, 1000), (1001, 1103), (1003, 1100)], rfl, ⟨by kernel_rfl, by kernel_rfl, ⟨Wk.refl _, Wk.refl _, Wk.refl _, Wk.refl _, Wk.refl _, Wk.refl _, trivial⟩, ⟨_, rfl, OW.refl _⟩, ⟨_, rfl, OW.refl _⟩, ⟨_, rfl, row_ow (by rw [k3]; rfl)⟩, ⟨_, rfl, rB_ow (by rw [rens_rowV]) rfl⟩, trivial⟩, fun W0 F N ys w1 hs => ?_⟩⟩⟩
      · simp only [Cnd.holds, k1, k2, b1, b2, rens_rowV, Nat.blt_eq, true_and, and_true]
        and_intros
        all_goals first
          | (with_reducible exact trivial)
          | (with_reducible exact rfl)
          | (with_reducible exact Wk.refl _)
          | (with_reducible exact VW.refl _)
          | (with_reducible exact OW.refl _)
          | (with_reducible exact wk_lit _)
          | (with_reducible assumption)
          | exact rfl
          | exact Wk.refl _
          | exact VW.refl _
          | exact OW.refl _
          | ((repeat (first | exact VW.nil | refine VW.cons (Wk.refl _) ?_ | refine VW.cons (Wk.any _) ?_ | refine VW.cons (wk_cap (Nat.le_refl _)) ?_)); done)
      · obtain ⟨r, hr⟩ := out_add0 (fun K => parO_cl _ K) (fun K h1 h2 => aIn_cl (h1 1 (by decide)) h2) hs
        refine ⟨⟨⟨R ++ [r], M ++ [((m, t, []), B)], w.drop k⟩, by simp [hR], by simp only; omega, hI2⟩, hwd, ?_⟩
        simp only [List.length_append, List.length_singleton]
        exact hr
    | cons x l =>
      refine ⟨[(fNext, cNxY w (w.drop k) m t (x :: l) B)], hintL [(fTold, 15, 1, hv (.lit false))], [], fun F hF => one_c (cNxY_ok hW hF hw hn (by intro e; cases e)), fun _ _ => noL, fun F => ?_⟩
      have hne : x :: l ≠ [] := by intro e; cases e
      generalize x :: l = L at *
      refine cast (congrArg (VAll _) (oInY_eq W b c w (w.drop k) R M m t L B R.length i e F).symm) ⟨⟨?_, rfl, .inl ⟨rfl, aIn (.v b) (.v c) 1001 (R.length + 1) i e, [(1, parO (w.drop k)), (1000, .any (frz (PQ R M))), (1001, .cells (rowV encQ R ++ [sv m, sv t, sP 1002 L.length, sB 1003 B.length]) tRqs), (1002, rP L), (1003, rB B)], [(1000, 1000), (1001, 1104), (1002, 1100), (1003, 1101)], rfl, ⟨by kernel_rfl, by kernel_rfl, ⟨Wk.refl _, Wk.refl _, Wk.refl _, Wk.refl _, Wk.refl _, Wk.refl _, trivial⟩, ⟨_, rfl, OW.refl _⟩, ⟨_, rfl, OW.refl _⟩, ⟨_, rfl, row_ow (by rw [k3]; rfl)⟩, ⟨_, rfl, rP_ow (by rw [rens_rowV]) rfl⟩, ⟨_, rfl, rB_ow (by rw [rens_rowV]) rfl⟩, trivial⟩, fun W0 F N ys w1 hs => ?_⟩⟩⟩
      · simp only [Cnd.holds, k1, k2, b1, b2, rens_rowV, Nat.blt_eq, true_and, and_true]
        and_intros
        all_goals first
          | (with_reducible exact trivial)
          | (with_reducible exact rfl)
          | (with_reducible exact Wk.refl _)
          | (with_reducible exact VW.refl _)
          | (with_reducible exact OW.refl _)
          | (with_reducible exact wk_lit _)
          | (with_reducible assumption)
          | exact rfl
          | exact Wk.refl _
          | exact VW.refl _
          | exact OW.refl _
          | ((repeat (first | exact VW.nil | refine VW.cons (Wk.refl _) ?_ | refine VW.cons (Wk.any _) ?_ | refine VW.cons (wk_cap (Nat.le_refl _)) ?_)); done)
      · obtain ⟨r, hr⟩ := out_add hne (fun K => parO_cl _ K) (fun K h1 h2 => aIn_cl (h1 1 (by decide)) h2) hs
        refine ⟨⟨⟨R ++ [r], M ++ [((m, t, L), B)], w.drop k⟩, by simp [hR], by simp only; omega, hI2⟩, hwd, ?_⟩
        simp only [List.length_append, List.length_singleton]
        exact hr
end
end Go.Proofs.YtpijbbobejeemaaGreatDoor.Htp

/- Http: told: the loop over the cuts. -/
set_option linter.unusedVariables false
set_option linter.unusedSimpArgs false
set_option maxRecDepth 100000
namespace Go.Proofs.YtpijbbobejeemaaGreatDoor.Htp
open Go Go.RowKit Go.Proofs.YtpijbbobejeemaaGreatDoor.Eng Go.Proofs.YtpijbbobejeemaaGreatDoor.Kit Go.Proofs.YtpijbbobejeemaaGreatDoor.Tree
def upN (i : Nat) : Nat := match Nat.beq i 1001 with
  | true => 0
  | false => i
theorem goes_up {b c : Value} {n i e : Nat} {M : List Rqm} {R : List Rqr} {w : List UInt8} : Goes (tms 0 69 (aIn (.v b) (.v c) 0 n i e)) (outL M R ++ [(1, parO w)]) (tms 0 69 (aIn (.v b) (.v c) 1001 n i e)) (outN (parO w) R M) := by
  refine Goes.ren upN (fun i hi => ?_) (by rfl) (by rfl) (fun i hi hg => ?_) (by rfl) (fun x hx => ?_) (by rfl)
  · unfold upN
    split
    · rename_i h
      have := Nat.eq_of_beq_eq_true h
      omega
    · rfl
  · have h1 : i ≠ 1001 := fun e => by subst e; cases hg
    have h2 : i ≠ 1000 := fun e => by subst e; cases hg
    have hu : upN i = i := by
      unfold upN
      split
      · rename_i h; exact absurd (Nat.eq_of_beq_eq_true h) h1
      · rfl
    rw [hu]
    refine ⟨hi, ?_⟩
    have a0 : i ≠ 0 := by omega
    have a1 : i ≠ 1 := by omega
    show getO [(0, AO.cells (rowV encQ R) tRqs), (1000, AO.any (frz (PQ R M))), (1, parO w)] i = none
    simp only [getO, a0, h2, a1, if_false]
  · unfold outN at hx
    rcases List.mem_cons.1 hx with rfl | hx
    · exact ⟨_, rfl, OW.refl _⟩
    rcases List.mem_cons.1 hx with rfl | hx
    · exact ⟨_, rfl, OW.refl _⟩
    rcases List.mem_cons.1 hx with rfl | hx
    · exact ⟨_, rfl, row_ow0⟩
    · cases hx
theorem in_loop {W : World} (hW : LW W) (b c : Value) (i e : Nat) (M : List Rqm) (w0 : List UInt8) (hw : w0.length ≤ 4000000) (hM : (M ++ (dr hdB w0).1).length ≤ 4000000) :
    LTri Tryz.prog W (loopN fTold 13) (tms 0 69 (aIn (.v b) (.v c) 0 M.length i e)) [(0, outO M), (1, parO w0)] (.exit 2) (tms 0 69 ((10, iv (Int.ofNat (dr hdB w0).2.1)) :: aIn (.v b) (.v c) 1001 (M ++ (dr hdB w0).1).length i e)) [(1, parO (dr hdB w0).2.2), (1001, outO (M ++ (dr hdB w0).1))] := by
  intro W0 F N w a Q hF hNB r ha hK
  obtain ⟨R, hR, N', q1, q2, q3, q4⟩ := St.open (L := outL M) (H0 := [(1, parO w0)]) (outL_own M _ ⟨rfl, rfl, rfl⟩) (outL_cl M) (fun R => ⟨_, rfl⟩) hNB r ha
  obtain ⟨N2, p1, p2, p3, p4⟩ := goes_up W0 F N _ w ⟨N', q1, q2, q3, q4⟩
  have := in_raw hW b c i e hM ⟨⟨R, M, w0⟩, hR, hw, rfl⟩
  simp only [hR] at this
  exact this W0 F N2 w a Q hF p2 p3 p4 fun a' w' ⟨N3, s1, s2, s3, s4⟩ hd => hK a' w' ⟨N3, fun i hi => (s1 i hi).trans (p1 i hi), s2, s3, s4⟩ hd
theorem gIn_ro : ∀ args, RO (gIn args) := by
  intro args
  unfold gIn
  split
  · exact RO.ret _
  · exact RO.fail _
theorem gOu_ro : ∀ args, RO (gOu args) := by
  intro args
  unfold gOu
  split
  · exact RO.ret _
  · exact RO.fail _
theorem lIn_ok {W : World} {F : HP} (hW : LW W) (hF : OldOK W F) (b c : Value) (i e : Nat) (M : List Rqm) (w0 : List UInt8) (hw : w0.length ≤ 4000000) (hM : (M ++ (dr hdB w0).1).length ≤ 4000000) : L1OK Tryz.prog F (loopN fTold 13) (lIn (.v b) (.v c) w0 (dr hdB w0).2.2 M (M ++ (dr hdB w0).1) M.length (M ++ (dr hdB w0).1).length i e (dr hdB w0).2.1) :=
  mkL_ok hF gIn_ro (fun _ _ => by
    simp only [RT.pick]
    exact in_loop hW b c i e M w0 hw hM) fun _ => by
    simp only [RT.pick]
    exact closedT rfl rfl (all_cons trivial (all_cons trivial (all_cons rfl (all_cons rfl (all_cons trivial (all_cons trivial all_nil)))))) (all_cons (outO_cl _ _) (all_cons (parO_cl _ _) all_nil)) (all_cons trivial (all_cons trivial (all_cons trivial (all_cons rfl (all_cons rfl (all_cons trivial (all_cons trivial all_nil))))))) (all_cons (parO_cl _ _) (all_cons (outO_cl _ _) all_nil))
theorem cFe_ok (F : HP) (w x : List UInt8) (hb : w.length + x.length ≤ 4000000) : C1OK Tryz.prog F fFeed (cFe w x) :=
  mkC_ok (OldOK.nothing F) (fun _ => .tuple []) gFe_ro (fun _ => rfl) (fun _ _ => Feed_tri w x hb) fun _ => ⟨rfl, rfl, ⟨rfl, rfl, trivial⟩, all_cons (parO_cl _ _) (all_cons (rB_cl _ _) all_nil), ⟨trivial, trivial⟩, all_cons (parO_cl _ _) all_nil⟩
/-! What comes in. -/
def BArg (W : World) (b : Value) (bs : List UInt8) : Prop := (∃ bc, b = .slice none 0 bc ∧ bs = []) ∨ ∃ ba bc, b = .slice (some ba) bs.length bc ∧ bs.length ≤ bc ∧ ∀ (j : Nat) x, bs[j]? = some x → W.cell? (ba.add j) = some (.int .u8 x.toNat)
def CArg (W : World) (c : Value) (zs : List Int) : Prop := (∃ cc, c = .slice none 0 cc ∧ zs = []) ∨ ∃ ca cc, c = .slice (some ca) zs.length cc ∧ ∀ (j : Nat) z, zs[j]? = some z → W.cell? (ca.add j) = some (.int .i64 z)
def zA : Addr := ⟨0, 0, none⟩
def chA (ba : Addr) (bc : Nat) : Nat → Addr
  | 0 => ba
  | l + 1 => if bc = l + 1 then ba else ba.add ((l + 1) * 1)
theorem chA_add {ba : Addr} {bc a : Nat} (h : a < bc) (j : Nat) : (chA ba bc a).add j = ba.add (a + j) := by
  cases a with
  | zero => rw [Nat.zero_add]; rfl
  | succ l =>
    show (if bc = l + 1 then ba else ba.add ((l + 1) * 1)).add j = _
    rw [if_neg (by omega), Nat.mul_one, add_add']
theorem chA_wk2 {ba : Addr} {bc a n : Nat} : Wk (AV.v (match a with | 0 => Value.slice (some ba) (a + n) bc | l + 1 => Value.slice (if bc = l + 1 then some ba else Option.map (fun x : Addr => x.add (l + 1)) (some ba)) (a + n - (l + 1)) (bc - (l + 1)))) (AV.v (Value.slice (some (chA ba bc a)) n (bc - a))) := by
  cases a with
  | zero => simp only [Nat.zero_add]; exact Wk.refl _
  | succ l =>
    simp only [chA, Nat.add_sub_cancel_left, Nat.mul_one]
    split
    · exact Wk.refl _
    · exact Wk.refl _
theorem old_row {W : World} {y : Addr} {x : List UInt8} (h : ∀ (j : Nat) v, x[j]? = some v → W.cell? (y.add j) = some (.int .u8 v.toNat)) : vmap (oldCells W y x.length) = rowV encB x := by
  rw [rowB_map]
  congr 1
  refine List.ext_getElem (by simp [oldCells]) fun j h1 h2 => ?_
  simp only [oldCells, List.getElem_map, List.getElem_range]
  have hj : j < x.length := by simpa using h2
  rw [h j x[j] (List.getElem?_eq_getElem hj)]
  rfl
theorem old_all {W : World} {y : Addr} {x : List UInt8} (h : ∀ (j : Nat) v, x[j]? = some v → W.cell? (y.add j) = some (.int .u8 v.toNat)) : ((List.range x.length).all fun j => (W.cell? (y.add j)).isSome) = true := by
  rw [List.all_eq_true]
  intro j hj
  have hj : j < x.length := List.mem_range.1 hj
  rw [h j x[j] (List.getElem?_eq_getElem hj)]
  rfl
theorem and63 (z : Int) : ∃ m : Nat, IntKind.i64.wrap ↑(BitVec.ofInt 64 z &&& BitVec.ofInt 64 (Int.ofNat 63)).toNat = Int.ofNat m := by
  refine ⟨(BitVec.ofInt 64 z &&& BitVec.ofInt 64 (Int.ofNat 63)).toNat, ?_⟩
  have h : (BitVec.ofInt 64 z &&& BitVec.ofInt 64 (Int.ofNat 63)).toNat ≤ 63 := by
    rw [BitVec.toNat_and]
    exact Nat.le_trans Nat.and_le_right (by decide)
  exact IntWalk.i64_in _ (by omega)
theorem take_more (bs : List UInt8) (a n : Nat) : bs.take a ++ (bs.drop a).take n = bs.take (a + n) := by rw [List.take_add]
def Cut3 (zs : List Int) (i d n : Nat) : Prop := ∃ z y, zs[i]? = some z ∧ IntKind.i64.wrap ↑(BitVec.ofInt 64 z &&& BitVec.ofInt 64 (Int.ofNat 63)).toNat = y ∧ (if Int.ofNat d < y then Int.ofNat d else y) = Int.ofNat n
section
variable {W : World} (hW : LW W) {b c : Value} {bs : List UInt8} {zs : List Int} (hB : BArg W b bs) (hC : CArg W c zs) (hbl : bs.length ≤ 1048576) (hcl : zs.length ≤ 1048576)
include hW hB hC hbl hcl
theorem ou_round (i a s : Nat) (M : List Rqm) (w : List UInt8) (hi : i ≤ zs.length) (ha : a ≤ bs.length) (hD : dr hdB (bs.take a) = (M, s, w)) :
    ∃ con hints lc, (∀ F, OldOK W F → ∀ x ∈ con, C1OK Tryz.prog F x.1 x.2) ∧ (∀ F, OldOK W F → ∀ x ∈ lc, L1OK Tryz.prog F x.2.2.1 x.2.2.2) ∧ ∃ e s' M' w', e ≤ bs.length ∧ (¬ i < zs.length → e = bs.length) ∧ dr hdB (bs.take e) = (M', s', w') ∧
      ∀ F, VAll (fun r os _ => r.2.2 = 69 ∧ r.1 = .normal ∧ ∃ l, FitT kOu iOu r.2.1 os (aOu (.v b) (.v c) M'.length (i + 1) e s') (oOu w' M') l) (wLoop con hints lc W fTold (loopN fTold 6) (tms 0 69 (aOu (.v b) (.v c) M.length i a s)) (oOu w M) kOu iOu F) := by
  have hwi := wrap_succ i (by omega)
  have hwd := wrap_sub ha (by omega)
  have hlen := dr_len hdB _ (bs.take a) (Nat.le_refl _)
  rw [hD, List.length_take, Nat.min_eq_left ha] at hlen
  simp only at hlen
  have hn : ∃ n, n ≤ bs.length - a ∧ (¬ i < zs.length → n = bs.length - a) ∧ (i < zs.length → Cut3 zs i (bs.length - a) n) := by
    by_cases h : i < zs.length
    · obtain ⟨m, hm⟩ := and63 zs[i]
      by_cases hlt : bs.length - a < m
      · exact ⟨bs.length - a, Nat.le_refl _, fun h2 => absurd h h2, fun _ => ⟨_, _, List.getElem?_eq_getElem h, hm, by rw [if_pos (show Int.ofNat (bs.length - a) < Int.ofNat m by simp only [Int.ofNat_eq_natCast, Int.ofNat_lt]; exact hlt)]⟩⟩
      · exact ⟨m, by omega, fun h2 => absurd h h2, fun _ => ⟨_, _, List.getElem?_eq_getElem h, hm, by rw [if_neg (show ¬ Int.ofNat (bs.length - a) < Int.ofNat m by simp only [Int.ofNat_eq_natCast, Int.ofNat_lt]; omega)]⟩⟩
    · exact ⟨bs.length - a, Nat.le_refl _, fun _ => rfl, fun h2 => absurd h2 h⟩
  obtain ⟨n, hn1, hn2, hn3⟩ := hn
  have hwe := wrap_nat (a := a) (b := n) (by omega)
  have hx : ((bs.drop a).take n).length = n := by rw [List.length_take, List.length_drop]; omega
  have hfeed := feed_dr hdB (bs.take a) ((bs.drop a).take n)
  rw [take_more, hD] at hfeed
  unfold feed at hfeed
  simp only at hfeed
  have hlen2 := dr_len hdB _ (bs.take (a + n)) (Nat.le_refl _)
  rw [← hfeed, List.length_take, Nat.min_eq_left (show a + n ≤ bs.length by omega)] at hlen2
  simp only at hlen2
  have hle : a ≤ a + n := Nat.le_add_right _ _
  have hend : ¬ i < zs.length → a + n = bs.length := fun h => by have := hn2 h; omega
  have hel : a + n ≤ bs.length := by omega
  generalize hxx : (bs.drop a).take n = x at *
  have hb2 : w.length + x.length ≤ 4000000 := by omega
  have hwx : (w ++ x).length ≤ 4000000 := by rw [List.length_append]; omega
  have hMl : (M ++ (dr hdB (w ++ x)).1).length ≤ 4000000 := by omega
  have out_ow : ∀ M : List Rqm, OW (outO M) (outO M) := fun M => OW.refl _
  rcases hB with ⟨bc, rfl, hb0⟩ | ⟨ba, bc, rfl, hbc, hbytes⟩
  · subst hb0
    have ha0 : a = 0 := Nat.le_zero.1 ha
    subst ha0
    have hn0 : n = 0 := Nat.le_zero.1 hn1
    subst hn0
    have hxe : x = [] := List.eq_nil_of_length_eq_zero hx
    subst hxe
    have hlc : (0 : Nat) + 0 ≤ bc := Nat.zero_le _
    have hchunk : Wk (AV.v (Value.slice none (0 + 0) bc)) (AV.v (Value.slice none 0 (bc - 0))) := Wk.refl _
    have hcap : (0 : Nat) ≤ 0 := Nat.le_refl _
    rcases hC with ⟨cc, rfl, hz0⟩ | ⟨ca, cc, rfl, hcells⟩
    · subst hz0
      have hmid : ¬ i < ([] : List Int).length := Nat.not_lt_zero _
      have hi0 : i = 0 := Nat.le_zero.1 hi
      have hnd := hn2 hmid
      rw [← hnd] at hwd
      refine ⟨[(fFeed, cFe w [])], hintL (hOu 0 0 (0 + 0) i 0 0 false ++ [(fTold, 11, 7, h0v (.v (.slice none 0 (bc - 0)))), (fTold, 11, 8, h0)]), [(fTold, 13, loopN fTold 13, lIn (.v (.slice none 0 bc)) (.v (.slice none 0 cc)) (w ++ []) (dr hdB (w ++ [])).2.2 M (M ++ (dr hdB (w ++ [])).1) M.length (M ++ (dr hdB (w ++ [])).1).length i (0 + 0) (dr hdB (w ++ [])).2.1)], fun F hF => one_c (cFe_ok F _ _ (by first | exact hb2 | (simp only [List.length_nil]; omega))), fun F hF => one_l (lIn_ok hW hF _ _ _ _ _ _ hwx hMl), (0 + 0), _, _, _, hel, hend, hfeed.symm, fun F => ?_⟩
      refine cast (congrArg (VAll _) (oOuZNL_eq W zA zA zA 0 bc 0 cc (bc - 0) w (dr hdB (w ++ [])).2.2 [] M (M ++ (dr hdB (w ++ [])).1) 0 0 (0 + 0) i 0 M.length (M ++ (dr hdB (w ++ [])).1).length s (dr hdB (w ++ [])).2.1 0 0 F).symm) ⟨⟨?_, rfl, rfl, [(1001, 1101)], by kernel_rfl, by kernel_rfl, ⟨Wk.refl _, Wk.refl _, Wk.refl _, Wk.refl _, Wk.refl _, Wk.refl _, Wk.refl _, trivial⟩, ⟨_, rfl, OW.refl _⟩, ⟨_, rfl, OW.refl _⟩, trivial⟩⟩
      simp only [Cnd.holds, Nat.mul_one, Nat.zero_add, List.nil_append, Nat.sub_self, Nat.zero_sub, Nat.blt_eq, true_and, and_true]
      and_intros
      all_goals first
        | exact wk_int hwi
        | exact wk_int hwd
        | exact wk_int hwe
        | exact wk_litE (decide_eq_true (by simp only [Int.ofNat_eq_natCast, gt_iff_lt]; omega))
        | exact wk_litE (decide_eq_false (by simp only [Int.ofNat_eq_natCast, gt_iff_lt]; omega))
        | exact out_ow
        | exact par_ow
        | exact hchunk
        | exact chA_wk2
        | exact hcap
        | (rw [rens_rowV]; exact OW.refl _)
        | exact VW.cons (Wk.refl _) (VW.cons (wk_cap (Nat.le_refl _)) VW.nil)
        | exact hle
        | exact hlc
        | (with_reducible exact trivial)
        | (with_reducible exact rfl)
        | (with_reducible exact Wk.refl _)
        | (with_reducible exact VW.refl _)
        | (with_reducible exact OW.refl _)
        | (with_reducible exact wk_lit _)
        | (with_reducible assumption)
        | exact rfl
        | exact Wk.refl _
        | exact VW.refl _
        | exact OW.refl _
        | ((repeat (first | exact VW.nil | refine VW.cons (Wk.refl _) ?_ | refine VW.cons (Wk.any _) ?_ | refine VW.cons (wk_cap (Nat.le_refl _)) ?_)); done)
    · by_cases hmid : i < zs.length
      · obtain ⟨z, y, hz, hzy, hmin⟩ := hn3 hmid
        refine ⟨[(fFeed, cFe w [])], hintL (hOu (0 - 0) 0 (0 + 0) i z y true ++ [(fTold, 11, 7, h0v (.v (.slice none 0 (bc - 0)))), (fTold, 11, 8, h0)]), [(fTold, 13, loopN fTold 13, lIn (.v (.slice none 0 bc)) (.v (.slice (some ca) zs.length cc)) (w ++ []) (dr hdB (w ++ [])).2.2 M (M ++ (dr hdB (w ++ [])).1) M.length (M ++ (dr hdB (w ++ [])).1).length i (0 + 0) (dr hdB (w ++ [])).2.1)], fun F hF => one_c (cFe_ok F _ _ (by first | exact hb2 | (simp only [List.length_nil]; omega))), fun F hF => one_l (lIn_ok hW hF _ _ _ _ _ _ hwx hMl), (0 + 0), _, _, _, hel, hend, hfeed.symm, fun F => ?_⟩
        have hc0 : (W.cell? (ca.add i)).isSome = true := by rw [hcells i z hz]; rfl
        have hc1 : (W.cell? (ca.add i)).getD (Value.tuple (Array.mk [])) = .int .i64 z := by rw [hcells i z hz]; rfl
        have hc2 : i.blt zs.length = true := by rw [Nat.blt_eq]; exact hmid
        refine cast (congrArg (VAll _) (oOuZSM_eq W zA ca zA 0 bc zs.length cc (bc - 0) w (dr hdB (w ++ [])).2.2 [] M (M ++ (dr hdB (w ++ [])).1) (0 - 0) 0 (0 + 0) i 0 M.length (M ++ (dr hdB (w ++ [])).1).length s (dr hdB (w ++ [])).2.1 z y F).symm) ⟨⟨?_, rfl, rfl, [(1001, 1101)], by kernel_rfl, by kernel_rfl, ⟨Wk.refl _, Wk.refl _, Wk.refl _, Wk.refl _, Wk.refl _, Wk.refl _, Wk.refl _, trivial⟩, ⟨_, rfl, OW.refl _⟩, ⟨_, rfl, OW.refl _⟩, trivial⟩⟩
        simp only [Cnd.holds, Nat.mul_one, Nat.zero_add, List.nil_append, Nat.sub_self, Nat.zero_sub, hc0, hc1, hc2, AV.intOf, Nat.blt_eq, true_and, and_true]
        and_intros
        all_goals first
          | exact wk_int hwi
          | exact wk_int hwd
          | exact wk_int hwe
          | exact wk_int hzy
          | exact wk_int hmin
          | exact wk_litE (decide_eq_true (by simp only [Int.ofNat_eq_natCast, gt_iff_lt]; omega))
          | exact wk_litE (decide_eq_false (by simp only [Int.ofNat_eq_natCast, gt_iff_lt]; omega))
          | exact out_ow
          | exact par_ow
          | exact hchunk
          | exact chA_wk2
          | exact hcap
          | (rw [rens_rowV]; exact OW.refl _)
          | exact VW.cons (Wk.refl _) (VW.cons (wk_cap (Nat.le_refl _)) VW.nil)
          | exact hle
          | exact hlc
          | (with_reducible exact trivial)
          | (with_reducible exact rfl)
          | (with_reducible exact Wk.refl _)
          | (with_reducible exact VW.refl _)
          | (with_reducible exact OW.refl _)
          | (with_reducible exact wk_lit _)
          | (with_reducible assumption)
          | exact rfl
          | exact Wk.refl _
          | exact VW.refl _
          | exact OW.refl _
          | ((repeat (first | exact VW.nil | refine VW.cons (Wk.refl _) ?_ | refine VW.cons (Wk.any _) ?_ | refine VW.cons (wk_cap (Nat.le_refl _)) ?_)); done)
      · have hnd := hn2 hmid
        rw [← hnd] at hwd
        refine ⟨[(fFeed, cFe w [])], hintL (hOu 0 0 (0 + 0) i 0 0 false ++ [(fTold, 11, 7, h0v (.v (.slice none 0 (bc - 0)))), (fTold, 11, 8, h0)]), [(fTold, 13, loopN fTold 13, lIn (.v (.slice none 0 bc)) (.v (.slice (some ca) zs.length cc)) (w ++ []) (dr hdB (w ++ [])).2.2 M (M ++ (dr hdB (w ++ [])).1) M.length (M ++ (dr hdB (w ++ [])).1).length i (0 + 0) (dr hdB (w ++ [])).2.1)], fun F hF => one_c (cFe_ok F _ _ (by first | exact hb2 | (simp only [List.length_nil]; omega))), fun F hF => one_l (lIn_ok hW hF _ _ _ _ _ _ hwx hMl), (0 + 0), _, _, _, hel, hend, hfeed.symm, fun F => ?_⟩
        refine cast (congrArg (VAll _) (oOuZSL_eq W zA ca zA 0 bc zs.length cc (bc - 0) w (dr hdB (w ++ [])).2.2 [] M (M ++ (dr hdB (w ++ [])).1) 0 0 (0 + 0) i 0 M.length (M ++ (dr hdB (w ++ [])).1).length s (dr hdB (w ++ [])).2.1 0 0 F).symm) ⟨⟨?_, rfl, rfl, [(1001, 1101)], by kernel_rfl, by kernel_rfl, ⟨Wk.refl _, Wk.refl _, Wk.refl _, Wk.refl _, Wk.refl _, Wk.refl _, Wk.refl _, trivial⟩, ⟨_, rfl, OW.refl _⟩, ⟨_, rfl, OW.refl _⟩, trivial⟩⟩
        simp only [Cnd.holds, Nat.mul_one, Nat.zero_add, List.nil_append, Nat.sub_self, Nat.zero_sub, Nat.blt_eq, true_and, and_true]
        and_intros
        all_goals first
          | exact wk_int hwi
          | exact wk_int hwd
          | exact wk_int hwe
          | exact wk_litE (decide_eq_true (by simp only [Int.ofNat_eq_natCast, gt_iff_lt]; omega))
          | exact wk_litE (decide_eq_false (by simp only [Int.ofNat_eq_natCast, gt_iff_lt]; omega))
          | exact out_ow
          | exact par_ow
          | exact hchunk
          | exact chA_wk2
          | exact hcap
          | (rw [rens_rowV]; exact OW.refl _)
          | exact VW.cons (Wk.refl _) (VW.cons (wk_cap (Nat.le_refl _)) VW.nil)
          | exact hle
          | exact hlc
          | (with_reducible exact trivial)
          | (with_reducible exact rfl)
          | (with_reducible exact Wk.refl _)
          | (with_reducible exact VW.refl _)
          | (with_reducible exact OW.refl _)
          | (with_reducible exact wk_lit _)
          | (with_reducible assumption)
          | exact rfl
          | exact Wk.refl _
          | exact VW.refl _
          | exact OW.refl _
          | ((repeat (first | exact VW.nil | refine VW.cons (Wk.refl _) ?_ | refine VW.cons (Wk.any _) ?_ | refine VW.cons (wk_cap (Nat.le_refl _)) ?_)); done)
  by_cases h0 : n = 0
  · subst h0
    have hxe : x = [] := List.eq_nil_of_length_eq_zero hx
    subst hxe
    have hlc : a + 0 ≤ bc := by omega
    have hcap : (0 : Nat) ≤ 0 := Nat.le_refl _
    have hchunk := hcap
    rcases hC with ⟨cc, rfl, hz0⟩ | ⟨ca, cc, rfl, hcells⟩
    · subst hz0
      have hmid : ¬ i < ([] : List Int).length := Nat.not_lt_zero _
      have hi0 : i = 0 := Nat.le_zero.1 hi
      have hnd := hn2 hmid
      rw [← hnd] at hwd
      refine ⟨[(fFeed, cFe w [])], hintL (hOu 0 0 (a + 0) i 0 0 false ++ [(fTold, 11, 7, h0v (.v (.slice (some (chA ba bc a)) 0 (bc - a)))), (fTold, 11, 8, h0)]), [(fTold, 13, loopN fTold 13, lIn (.v (.slice (some ba) bs.length bc)) (.v (.slice none 0 cc)) (w ++ []) (dr hdB (w ++ [])).2.2 M (M ++ (dr hdB (w ++ [])).1) M.length (M ++ (dr hdB (w ++ [])).1).length i (a + 0) (dr hdB (w ++ [])).2.1)], fun F hF => one_c (cFe_ok F _ _ (by first | exact hb2 | (simp only [List.length_nil]; omega))), fun F hF => one_l (lIn_ok hW hF _ _ _ _ _ _ hwx hMl), (a + 0), _, _, _, hel, hend, hfeed.symm, fun F => ?_⟩
      refine cast (congrArg (VAll _) (oOuENL_eq W ba zA (chA ba bc a) bs.length bc 0 cc (bc - a) w (dr hdB (w ++ [])).2.2 [] M (M ++ (dr hdB (w ++ [])).1) 0 0 (a + 0) i a M.length (M ++ (dr hdB (w ++ [])).1).length s (dr hdB (w ++ [])).2.1 0 0 F).symm) ⟨⟨?_, rfl, rfl, [(1001, 1101)], by kernel_rfl, by kernel_rfl, ⟨Wk.refl _, Wk.refl _, Wk.refl _, Wk.refl _, Wk.refl _, Wk.refl _, Wk.refl _, trivial⟩, ⟨_, rfl, OW.refl _⟩, ⟨_, rfl, OW.refl _⟩, trivial⟩⟩
      simp only [Cnd.holds, Nat.mul_one, Nat.zero_add, List.nil_append, Nat.sub_self, Nat.zero_sub, Nat.blt_eq, true_and, and_true]
      and_intros
      all_goals first
        | exact wk_int hwi
        | exact wk_int hwd
        | exact wk_int hwe
        | exact wk_litE (decide_eq_true (by simp only [Int.ofNat_eq_natCast, gt_iff_lt]; omega))
        | exact wk_litE (decide_eq_false (by simp only [Int.ofNat_eq_natCast, gt_iff_lt]; omega))
        | exact out_ow
        | exact par_ow
        | exact hchunk
        | exact chA_wk2
        | exact hcap
        | (rw [rens_rowV]; exact OW.refl _)
        | exact VW.cons (Wk.refl _) (VW.cons (wk_cap (Nat.le_refl _)) VW.nil)
        | exact hle
        | exact hlc
        | (with_reducible exact trivial)
        | (with_reducible exact rfl)
        | (with_reducible exact Wk.refl _)
        | (with_reducible exact VW.refl _)
        | (with_reducible exact OW.refl _)
        | (with_reducible exact wk_lit _)
        | (with_reducible assumption)
        | exact rfl
        | exact Wk.refl _
        | exact VW.refl _
        | exact OW.refl _
        | ((repeat (first | exact VW.nil | refine VW.cons (Wk.refl _) ?_ | refine VW.cons (Wk.any _) ?_ | refine VW.cons (wk_cap (Nat.le_refl _)) ?_)); done)
    · by_cases hmid : i < zs.length
      · obtain ⟨z, y, hz, hzy, hmin⟩ := hn3 hmid
        refine ⟨[(fFeed, cFe w [])], hintL (hOu (bs.length - a) 0 (a + 0) i z y true ++ [(fTold, 11, 7, h0v (.v (.slice (some (chA ba bc a)) 0 (bc - a)))), (fTold, 11, 8, h0)]), [(fTold, 13, loopN fTold 13, lIn (.v (.slice (some ba) bs.length bc)) (.v (.slice (some ca) zs.length cc)) (w ++ []) (dr hdB (w ++ [])).2.2 M (M ++ (dr hdB (w ++ [])).1) M.length (M ++ (dr hdB (w ++ [])).1).length i (a + 0) (dr hdB (w ++ [])).2.1)], fun F hF => one_c (cFe_ok F _ _ (by first | exact hb2 | (simp only [List.length_nil]; omega))), fun F hF => one_l (lIn_ok hW hF _ _ _ _ _ _ hwx hMl), (a + 0), _, _, _, hel, hend, hfeed.symm, fun F => ?_⟩
        have hc0 : (W.cell? (ca.add i)).isSome = true := by rw [hcells i z hz]; rfl
        have hc1 : (W.cell? (ca.add i)).getD (Value.tuple (Array.mk [])) = .int .i64 z := by rw [hcells i z hz]; rfl
        have hc2 : i.blt zs.length = true := by rw [Nat.blt_eq]; exact hmid
        refine cast (congrArg (VAll _) (oOuESM_eq W ba ca (chA ba bc a) bs.length bc zs.length cc (bc - a) w (dr hdB (w ++ [])).2.2 [] M (M ++ (dr hdB (w ++ [])).1) (bs.length - a) 0 (a + 0) i a M.length (M ++ (dr hdB (w ++ [])).1).length s (dr hdB (w ++ [])).2.1 z y F).symm) ⟨⟨?_, rfl, rfl, [(1001, 1101)], by kernel_rfl, by kernel_rfl, ⟨Wk.refl _, Wk.refl _, Wk.refl _, Wk.refl _, Wk.refl _, Wk.refl _, Wk.refl _, trivial⟩, ⟨_, rfl, OW.refl _⟩, ⟨_, rfl, OW.refl _⟩, trivial⟩⟩
        simp only [Cnd.holds, Nat.mul_one, Nat.zero_add, List.nil_append, Nat.sub_self, Nat.zero_sub, hc0, hc1, hc2, AV.intOf, Nat.blt_eq, true_and, and_true]
        and_intros
        all_goals first
          | exact wk_int hwi
          | exact wk_int hwd
          | exact wk_int hwe
          | exact wk_int hzy
          | exact wk_int hmin
          | exact wk_litE (decide_eq_true (by simp only [Int.ofNat_eq_natCast, gt_iff_lt]; omega))
          | exact wk_litE (decide_eq_false (by simp only [Int.ofNat_eq_natCast, gt_iff_lt]; omega))
          | exact out_ow
          | exact par_ow
          | exact hchunk
          | exact chA_wk2
          | exact hcap
          | (rw [rens_rowV]; exact OW.refl _)
          | exact VW.cons (Wk.refl _) (VW.cons (wk_cap (Nat.le_refl _)) VW.nil)
          | exact hle
          | exact hlc
          | (with_reducible exact trivial)
          | (with_reducible exact rfl)
          | (with_reducible exact Wk.refl _)
          | (with_reducible exact VW.refl _)
          | (with_reducible exact OW.refl _)
          | (with_reducible exact wk_lit _)
          | (with_reducible assumption)
          | exact rfl
          | exact Wk.refl _
          | exact VW.refl _
          | exact OW.refl _
          | ((repeat (first | exact VW.nil | refine VW.cons (Wk.refl _) ?_ | refine VW.cons (Wk.any _) ?_ | refine VW.cons (wk_cap (Nat.le_refl _)) ?_)); done)
      · have hnd := hn2 hmid
        rw [← hnd] at hwd
        refine ⟨[(fFeed, cFe w [])], hintL (hOu 0 0 (a + 0) i 0 0 false ++ [(fTold, 11, 7, h0v (.v (.slice (some (chA ba bc a)) 0 (bc - a)))), (fTold, 11, 8, h0)]), [(fTold, 13, loopN fTold 13, lIn (.v (.slice (some ba) bs.length bc)) (.v (.slice (some ca) zs.length cc)) (w ++ []) (dr hdB (w ++ [])).2.2 M (M ++ (dr hdB (w ++ [])).1) M.length (M ++ (dr hdB (w ++ [])).1).length i (a + 0) (dr hdB (w ++ [])).2.1)], fun F hF => one_c (cFe_ok F _ _ (by first | exact hb2 | (simp only [List.length_nil]; omega))), fun F hF => one_l (lIn_ok hW hF _ _ _ _ _ _ hwx hMl), (a + 0), _, _, _, hel, hend, hfeed.symm, fun F => ?_⟩
        refine cast (congrArg (VAll _) (oOuESL_eq W ba ca (chA ba bc a) bs.length bc zs.length cc (bc - a) w (dr hdB (w ++ [])).2.2 [] M (M ++ (dr hdB (w ++ [])).1) 0 0 (a + 0) i a M.length (M ++ (dr hdB (w ++ [])).1).length s (dr hdB (w ++ [])).2.1 0 0 F).symm) ⟨⟨?_, rfl, rfl, [(1001, 1101)], by kernel_rfl, by kernel_rfl, ⟨Wk.refl _, Wk.refl _, Wk.refl _, Wk.refl _, Wk.refl _, Wk.refl _, Wk.refl _, trivial⟩, ⟨_, rfl, OW.refl _⟩, ⟨_, rfl, OW.refl _⟩, trivial⟩⟩
        simp only [Cnd.holds, Nat.mul_one, Nat.zero_add, List.nil_append, Nat.sub_self, Nat.zero_sub, Nat.blt_eq, true_and, and_true]
        and_intros
        all_goals first
          | exact wk_int hwi
          | exact wk_int hwd
          | exact wk_int hwe
          | exact wk_litE (decide_eq_true (by simp only [Int.ofNat_eq_natCast, gt_iff_lt]; omega))
          | exact wk_litE (decide_eq_false (by simp only [Int.ofNat_eq_natCast, gt_iff_lt]; omega))
          | exact out_ow
          | exact par_ow
          | exact hchunk
          | exact chA_wk2
          | exact hcap
          | (rw [rens_rowV]; exact OW.refl _)
          | exact VW.cons (Wk.refl _) (VW.cons (wk_cap (Nat.le_refl _)) VW.nil)
          | exact hle
          | exact hlc
          | (with_reducible exact trivial)
          | (with_reducible exact rfl)
          | (with_reducible exact Wk.refl _)
          | (with_reducible exact VW.refl _)
          | (with_reducible exact OW.refl _)
          | (with_reducible exact wk_lit _)
          | (with_reducible assumption)
          | exact rfl
          | exact Wk.refl _
          | exact VW.refl _
          | exact OW.refl _
          | ((repeat (first | exact VW.nil | refine VW.cons (Wk.refl _) ?_ | refine VW.cons (Wk.any _) ?_ | refine VW.cons (wk_cap (Nat.le_refl _)) ?_)); done)
  · have hlc : a + n ≤ bc := by omega
    have hcap : (0 : Nat) ≤ 0 := Nat.le_refl _
    have hchunk := hcap
    have hxl := hx
    have hnn : n.ble n = true := by rw [Nat.ble_eq]; exact Nat.le_refl _
    have hpc : ∀ (j : Nat) v, x[j]? = some v → W.cell? ((chA ba bc a).add j) = some (.int .u8 v.toNat) := fun j v hj => by
      rw [chA_add (by omega)]
      refine hbytes _ _ ?_
      rw [← hxx] at hj
      have hjn := (List.getElem?_eq_some_iff.1 hj).1
      rw [hxx, hx] at hjn
      rw [List.getElem?_take_of_lt hjn, List.getElem?_drop] at hj
      exact hj
    have hall := old_all hpc
    have hrow := old_row hpc
    rw [hx] at hall hrow
    have hone : (rowV encB x).all AV.one = true := one_rowV (fun _ => rfl) _
    have hn0 : Nat.blt 0 n = true := by rw [Nat.blt_eq]; omega
    have hb1 : n.ble 140737488355328 = true := ble_of (by omega)
    have hb3 : n.ble 9223372036854775807 = true := ble_of (by omega)
    rcases hC with ⟨cc, rfl, hz0⟩ | ⟨ca, cc, rfl, hcells⟩
    · subst hz0
      have hmid : ¬ i < ([] : List Int).length := Nat.not_lt_zero _
      have hi0 : i = 0 := Nat.le_zero.1 hi
      have hnd := hn2 hmid
      rw [← hnd] at hwd
      refine ⟨[(fFeed, cFe w x)], hintL (hOu n n (a + n) i 0 0 false ++ [(fTold, 11, 7, h0v (.v (.slice (some (chA ba bc a)) n (bc - a)))), (fTold, 11, 8, hvo (sB 1101 n) 1101 (rB x))]), [(fTold, 13, loopN fTold 13, lIn (.v (.slice (some ba) bs.length bc)) (.v (.slice none 0 cc)) (w ++ x) (dr hdB (w ++ x)).2.2 M (M ++ (dr hdB (w ++ x)).1) M.length (M ++ (dr hdB (w ++ x)).1).length i (a + n) (dr hdB (w ++ x)).2.1)], fun F hF => one_c (cFe_ok F _ _ (by first | exact hb2 | (simp only [List.length_nil]; omega))), fun F hF => one_l (lIn_ok hW hF _ _ _ _ _ _ hwx hMl), (a + n), _, _, _, hel, hend, hfeed.symm, fun F => ?_⟩
      refine cast (congrArg (VAll _) (oOuFNL_eq W ba zA (chA ba bc a) bs.length bc 0 cc (bc - a) w (dr hdB (w ++ x)).2.2 x M (M ++ (dr hdB (w ++ x)).1) n n (a + n) i a M.length (M ++ (dr hdB (w ++ x)).1).length s (dr hdB (w ++ x)).2.1 0 0 F).symm) ⟨⟨?_, rfl, rfl, [(1001, 1102)], by kernel_rfl, by kernel_rfl, ⟨Wk.refl _, Wk.refl _, Wk.refl _, Wk.refl _, Wk.refl _, Wk.refl _, Wk.refl _, trivial⟩, ⟨_, rfl, OW.refl _⟩, ⟨_, rfl, OW.refl _⟩, trivial⟩⟩
      simp only [Cnd.holds, Nat.mul_one, Nat.zero_add, List.nil_append, Nat.sub_self, Nat.zero_sub, hxl, hnn, hall, hrow, hone, hn0, hb1, hb3, Nat.blt_eq, true_and, and_true]
      and_intros
      all_goals first
        | exact wk_int hwi
        | exact wk_int hwd
        | exact wk_int hwe
        | exact wk_litE (decide_eq_true (by simp only [Int.ofNat_eq_natCast, gt_iff_lt]; omega))
        | exact wk_litE (decide_eq_false (by simp only [Int.ofNat_eq_natCast, gt_iff_lt]; omega))
        | exact out_ow
        | exact par_ow
        | exact hchunk
        | exact chA_wk2
        | exact hcap
        | (rw [rens_rowV]; exact OW.refl _)
        | exact VW.cons (Wk.refl _) (VW.cons (wk_cap (Nat.le_refl _)) VW.nil)
        | exact hle
        | exact hlc
        | (with_reducible exact trivial)
        | (with_reducible exact rfl)
        | (with_reducible exact Wk.refl _)
        | (with_reducible exact VW.refl _)
        | (with_reducible exact OW.refl _)
        | (with_reducible exact wk_lit _)
        | (with_reducible assumption)
        | exact rfl
        | exact Wk.refl _
        | exact VW.refl _
        | exact OW.refl _
        | ((repeat (first | exact VW.nil | refine VW.cons (Wk.refl _) ?_ | refine VW.cons (Wk.any _) ?_ | refine VW.cons (wk_cap (Nat.le_refl _)) ?_)); done)
    · by_cases hmid : i < zs.length
      · obtain ⟨z, y, hz, hzy, hmin⟩ := hn3 hmid
        refine ⟨[(fFeed, cFe w x)], hintL (hOu (bs.length - a) n (a + n) i z y true ++ [(fTold, 11, 7, h0v (.v (.slice (some (chA ba bc a)) n (bc - a)))), (fTold, 11, 8, hvo (sB 1101 n) 1101 (rB x))]), [(fTold, 13, loopN fTold 13, lIn (.v (.slice (some ba) bs.length bc)) (.v (.slice (some ca) zs.length cc)) (w ++ x) (dr hdB (w ++ x)).2.2 M (M ++ (dr hdB (w ++ x)).1) M.length (M ++ (dr hdB (w ++ x)).1).length i (a + n) (dr hdB (w ++ x)).2.1)], fun F hF => one_c (cFe_ok F _ _ (by first | exact hb2 | (simp only [List.length_nil]; omega))), fun F hF => one_l (lIn_ok hW hF _ _ _ _ _ _ hwx hMl), (a + n), _, _, _, hel, hend, hfeed.symm, fun F => ?_⟩
        have hc0 : (W.cell? (ca.add i)).isSome = true := by rw [hcells i z hz]; rfl
        have hc1 : (W.cell? (ca.add i)).getD (Value.tuple (Array.mk [])) = .int .i64 z := by rw [hcells i z hz]; rfl
        have hc2 : i.blt zs.length = true := by rw [Nat.blt_eq]; exact hmid
        refine cast (congrArg (VAll _) (oOuFSM_eq W ba ca (chA ba bc a) bs.length bc zs.length cc (bc - a) w (dr hdB (w ++ x)).2.2 x M (M ++ (dr hdB (w ++ x)).1) (bs.length - a) n (a + n) i a M.length (M ++ (dr hdB (w ++ x)).1).length s (dr hdB (w ++ x)).2.1 z y F).symm) ⟨⟨?_, rfl, rfl, [(1001, 1102)], by kernel_rfl, by kernel_rfl, ⟨Wk.refl _, Wk.refl _, Wk.refl _, Wk.refl _, Wk.refl _, Wk.refl _, Wk.refl _, trivial⟩, ⟨_, rfl, OW.refl _⟩, ⟨_, rfl, OW.refl _⟩, trivial⟩⟩
        simp only [Cnd.holds, Nat.mul_one, Nat.zero_add, List.nil_append, Nat.sub_self, Nat.zero_sub, hc0, hc1, hc2, AV.intOf, hxl, hnn, hall, hrow, hone, hn0, hb1, hb3, Nat.blt_eq, true_and, and_true]
        and_intros
        all_goals first
          | exact wk_int hwi
          | exact wk_int hwd
          | exact wk_int hwe
          | exact wk_int hzy
          | exact wk_int hmin
          | exact wk_litE (decide_eq_true (by simp only [Int.ofNat_eq_natCast, gt_iff_lt]; omega))
          | exact wk_litE (decide_eq_false (by simp only [Int.ofNat_eq_natCast, gt_iff_lt]; omega))
          | exact out_ow
          | exact par_ow
          | exact hchunk
          | exact chA_wk2
          | exact hcap
          | (rw [rens_rowV]; exact OW.refl _)
          | exact VW.cons (Wk.refl _) (VW.cons (wk_cap (Nat.le_refl _)) VW.nil)
          | exact hle
          | exact hlc
          | (with_reducible exact trivial)
          | (with_reducible exact rfl)
          | (with_reducible exact Wk.refl _)
          | (with_reducible exact VW.refl _)
          | (with_reducible exact OW.refl _)
          | (with_reducible exact wk_lit _)
          | (with_reducible assumption)
          | exact rfl
          | exact Wk.refl _
          | exact VW.refl _
          | exact OW.refl _
          | ((repeat (first | exact VW.nil | refine VW.cons (Wk.refl _) ?_ | refine VW.cons (Wk.any _) ?_ | refine VW.cons (wk_cap (Nat.le_refl _)) ?_)); done)
      · have hnd := hn2 hmid
        rw [← hnd] at hwd
        refine ⟨[(fFeed, cFe w x)], hintL (hOu n n (a + n) i 0 0 false ++ [(fTold, 11, 7, h0v (.v (.slice (some (chA ba bc a)) n (bc - a)))), (fTold, 11, 8, hvo (sB 1101 n) 1101 (rB x))]), [(fTold, 13, loopN fTold 13, lIn (.v (.slice (some ba) bs.length bc)) (.v (.slice (some ca) zs.length cc)) (w ++ x) (dr hdB (w ++ x)).2.2 M (M ++ (dr hdB (w ++ x)).1) M.length (M ++ (dr hdB (w ++ x)).1).length i (a + n) (dr hdB (w ++ x)).2.1)], fun F hF => one_c (cFe_ok F _ _ (by first | exact hb2 | (simp only [List.length_nil]; omega))), fun F hF => one_l (lIn_ok hW hF _ _ _ _ _ _ hwx hMl), (a + n), _, _, _, hel, hend, hfeed.symm, fun F => ?_⟩
        refine cast (congrArg (VAll _) (oOuFSL_eq W ba ca (chA ba bc a) bs.length bc zs.length cc (bc - a) w (dr hdB (w ++ x)).2.2 x M (M ++ (dr hdB (w ++ x)).1) n n (a + n) i a M.length (M ++ (dr hdB (w ++ x)).1).length s (dr hdB (w ++ x)).2.1 0 0 F).symm) ⟨⟨?_, rfl, rfl, [(1001, 1102)], by kernel_rfl, by kernel_rfl, ⟨Wk.refl _, Wk.refl _, Wk.refl _, Wk.refl _, Wk.refl _, Wk.refl _, Wk.refl _, trivial⟩, ⟨_, rfl, OW.refl _⟩, ⟨_, rfl, OW.refl _⟩, trivial⟩⟩
        simp only [Cnd.holds, Nat.mul_one, Nat.zero_add, List.nil_append, Nat.sub_self, Nat.zero_sub, hxl, hnn, hall, hrow, hone, hn0, hb1, hb3, Nat.blt_eq, true_and, and_true]
        and_intros
        all_goals first
          | exact wk_int hwi
          | exact wk_int hwd
          | exact wk_int hwe
          | exact wk_litE (decide_eq_true (by simp only [Int.ofNat_eq_natCast, gt_iff_lt]; omega))
          | exact wk_litE (decide_eq_false (by simp only [Int.ofNat_eq_natCast, gt_iff_lt]; omega))
          | exact out_ow
          | exact par_ow
          | exact hchunk
          | exact chA_wk2
          | exact hcap
          | (rw [rens_rowV]; exact OW.refl _)
          | exact VW.cons (Wk.refl _) (VW.cons (wk_cap (Nat.le_refl _)) VW.nil)
          | exact hle
          | exact hlc
          | (with_reducible exact trivial)
          | (with_reducible exact rfl)
          | (with_reducible exact Wk.refl _)
          | (with_reducible exact VW.refl _)
          | (with_reducible exact OW.refl _)
          | (with_reducible exact wk_lit _)
          | (with_reducible assumption)
          | exact rfl
          | exact Wk.refl _
          | exact VW.refl _
          | exact OW.refl _
          | ((repeat (first | exact VW.nil | refine VW.cons (Wk.refl _) ?_ | refine VW.cons (Wk.any _) ?_ | refine VW.cons (wk_cap (Nat.le_refl _)) ?_)); done)
end
end Go.Proofs.YtpijbbobejeemaaGreatDoor.Htp

/- Http: told. -/
set_option linter.unusedVariables false
set_option linter.unusedSimpArgs false
set_option maxRecDepth 100000
namespace Go.Proofs.YtpijbbobejeemaaGreatDoor.Htp
open Go Go.RowKit Go.Proofs.YtpijbbobejeemaaGreatDoor.Eng Go.Proofs.YtpijbbobejeemaaGreatDoor.Kit Go.Proofs.YtpijbbobejeemaaGreatDoor.Tree
structure OuS where
  i : Nat
  a : Nat
  s : Nat
  M : List Rqm
  w : List UInt8
section
variable {W : World} (hW : LW W) {b c : Value} {bs : List UInt8} {zs : List Int} (hB : BArg W b bs) (hC : CArg W c zs) (hbl : bs.length ≤ 1048576) (hcl : zs.length ≤ 1048576)
include hW hB hC hbl hcl
theorem ou_loop : LTri Tryz.prog W (loopN fTold 6) (tms 0 69 (aOu (.v b) (.v c) 0 0 0 0)) (oOu [] []) (.exit 0) (tms 0 69 [(8, sQ 1001 (dr hdB bs).1.length), (10, iv (Int.ofNat (dr hdB bs).2.1))]) [(1001, outO (dr hdB bs).1)] := by
  refine ltri_run (W := W) (g := fTold) (b := loopN fTold 6) (σ := {q : OuS // q.i ≤ zs.length + 1 ∧ q.a ≤ bs.length ∧ (zs.length < q.i → q.a = bs.length) ∧ dr hdB (bs.take q.a) = (q.M, q.s, q.w)}) 69 (fun q => aOu (.v b) (.v c) q.1.M.length q.1.i q.1.a q.1.s) (fun q => oOu q.1.w q.1.M) (.exit 0) _ [(1001, outO (dr hdB bs).1)] (fun q => zs.length + 1 - q.1.i) kOu iOu (by intro h; cases h) (fun _ => rfl) rfl ?_ ⟨⟨0, 0, 0, [], []⟩, Nat.zero_le _, Nat.zero_le _, fun h => absurd h (Nat.not_lt_zero _), rfl⟩
  rintro ⟨⟨i, a, s, M, w⟩, h1, h2, h3, h4⟩
  simp only at h1 h2 h3 h4
  simp only
  by_cases hi : i ≤ zs.length
  · obtain ⟨con, hints, lc, k1, k2, e, s', M', w', k3, k4, k5, hf⟩ := ou_round hW hB hC hbl hcl i a s M w hi h2 h4
    refine ⟨con, hints, lc, k1, k2, fun F => VAll.mono (hf F) ?_⟩
    rintro r os m ⟨q1, q2, l, q3⟩
    exact ⟨q1, .inl ⟨q2, ⟨⟨i + 1, e, s', M', w'⟩, by simp only; omega, k3, fun h => k4 (by simp only at h; omega), k5⟩, by show zs.length + 1 - (i + 1) < zs.length + 1 - i; omega, l, q3⟩⟩
  · have ha := h3 (by omega)
    rw [ha, List.take_length] at h4
    rw [h4]
    rcases hC with ⟨cc, rfl, hz⟩ | ⟨ca, cc, rfl, _⟩
    · subst hz
      refine ⟨[], hintL [(fTold, 6, 3, hv (.lit false))], [], fun _ _ => noC, fun _ _ => noL, fun F => ?_⟩
      refine cast (congrArg (VAll _) (oOuXN_eq W b zA 0 cc w M i a M.length s F).symm) ⟨⟨?_, rfl, .inr ⟨rfl, [(1001, 1001)], by kernel_rfl, by kernel_rfl, ⟨Wk.refl _, Wk.refl _, trivial⟩, ⟨_, rfl, OW.refl _⟩, trivial⟩⟩⟩
      simp only [Cnd.holds, and_true]
      exact wk_litE (decide_eq_false (by simp only [Int.ofNat_eq_natCast]; simp at hi; omega))
    · refine ⟨[], hintL [(fTold, 6, 3, hv (.lit false))], [], fun _ _ => noC, fun _ _ => noL, fun F => ?_⟩
      refine cast (congrArg (VAll _) (oOuXS_eq W b ca zs.length cc w M i a M.length s F).symm) ⟨⟨?_, rfl, .inr ⟨rfl, [(1001, 1001)], by kernel_rfl, by kernel_rfl, ⟨Wk.refl _, Wk.refl _, trivial⟩, ⟨_, rfl, OW.refl _⟩, trivial⟩⟩⟩
      simp only [Cnd.holds, and_true]
      exact wk_litE (decide_eq_false (by simp only [Int.ofNat_eq_natCast]; omega))
theorem Told_tri : Tri Tryz.prog W fTold [.v b, .v c] [] (.tuple [sQ 1000 (dr hdB bs).1.length, iv (Int.ofNat (dr hdB bs).2.1), bv true]) [(1000, outO (dr hdB bs).1)] := by
  refine tri_run (con := []) (hints := hintL [(fTold, 2, 1, hv (.lit false))]) (lc := [(fTold, 6, loopN fTold 6, lOu (.v b) (.v c) (dr hdB bs).1 (dr hdB bs).1.length (dr hdB bs).2.1)]) [1100, 1101, 1102] rfl (fun F _ => noC) (fun F hF => one_l (mkL_ok hF gOu_ro (fun _ _ => by
    simp only [RT.pick]
    exact ou_loop hW hB hC hbl hcl) fun _ => by
    simp only [RT.pick]
    exact closedT rfl rfl (all_cons trivial (all_cons trivial (all_cons rfl (all_cons rfl (all_cons trivial (all_cons trivial (all_cons trivial all_nil))))))) (all_cons (parO_cl _ _) (all_cons (outO_cl _ _) all_nil)) (all_cons rfl (all_cons trivial all_nil)) (all_cons (outO_cl _ _) all_nil))) fun F => ?_
  refine cast (congrArg (VAll _) (oTl_eq W b c (dr hdB bs).1 (dr hdB bs).1.length (dr hdB bs).2.1 F).symm) ⟨⟨?_, (fit_mk (vs' := [.tuple [sQ 1000 (dr hdB bs).1.length, iv (Int.ofNat (dr hdB bs).2.1), bv true]]) (H' := [(1000, outO (dr hdB bs).1)]) [(1000, 1102)] rfl rfl (VW.refl _) ⟨⟨_, rfl, OW.refl _⟩, trivial⟩).fits rfl⟩⟩
  simp only [Cnd.holds, rens_rowV, Nat.blt_eq, true_and, and_true]
  and_intros
  all_goals first
    | exact pZ_par
    | exact out_nil
    | (with_reducible exact trivial)
    | (with_reducible exact rfl)
    | (with_reducible exact Wk.refl _)
    | (with_reducible exact VW.refl _)
    | (with_reducible exact OW.refl _)
    | (with_reducible exact wk_lit _)
    | (with_reducible assumption)
    | exact rfl
    | exact Wk.refl _
    | exact VW.refl _
    | exact OW.refl _
    | ((repeat (first | exact VW.nil | refine VW.cons (Wk.refl _) ?_ | refine VW.cons (Wk.any _) ?_ | refine VW.cons (wk_cap (Nat.le_refl _)) ?_)); done)
end
end Go.Proofs.YtpijbbobejeemaaGreatDoor.Htp

/- Http: the document's Same: runs. -/
set_option linter.unusedVariables false
set_option linter.unusedSimpArgs false
set_option maxRecDepth 100000
namespace Go.Proofs.YtpijbbobejeemaaGreatDoor.Htp
open Go Go.RowKit Go.Proofs.YtpijbbobejeemaaGreatDoor.Eng Go.Proofs.YtpijbbobejeemaaGreatDoor.Kit Go.Proofs.YtpijbbobejeemaaGreatDoor.Tree
noncomputable section
abbrev fSm : Nat := 13
def rqC (m t : ByteArray) (h b : Value) : AO := .cells [sv m, sv t, .v h, .v b] tRqs
def rqA (m t : ByteArray) (h b : Value) : AV := .v (.agg #[.string m, .string t, h, b])
def hSm (bt : ByteArray) : List (Nat × Nat × Nat × Hint) := [(fSm, 1, 4, hv (.lit false)), (fSm, 1, 10, hv (.lit false)), (fSm, 1, 15, ht bt), (fSm, 1, 18, ht bt), (fSm, 1, 19, hv (.lit false)), (fSm, 1, 28, hv (.lit false))]
def aSm (i : Nat) : List (Nat × AV) := [(2, .ptr 0 0), (3, .ptr 1 0), (5, iv (Int.ofNat i))]
def oSm (m t : ByteArray) (h1 b1 h2 b2 : Value) : LH := [(0, rqC m t h1 b1), (1, rqC m t h2 b2)]
def iSm : List Nat := [2, 3, 4, 5]
theorem oSmR_eq (W : World) (m t k v : ByteArray) (a1 a2 : Addr) (b1 b2 : Value) (n c1 c2 i : Nat) (F : HP) : wLoop [] (hintL [(fSm, 4, 4, hv (.lit true)), (fSm, 6, 4, hv (.agg [sv k, sv v])), (fSm, 6, 9, hv (.agg [sv k, sv v])), (fSm, 6, 10, hv (.lit false)), (fSm, 5, 1, hv (iv (Int.ofNat (i + 1))))]) [] W fSm (loopN fSm 4) (tms 0 54 (aSm i)) (oSm m t (.slice (some a1) n c1) b1 (.slice (some a2) n c2) b2) [0, 1] iSm F = VT.leaf (AX.normal, [AV.ptr 0 0, AV.ptr 1 0, AV.any, AV.v (Value.int IntKind.i64 (Int.ofNat (i + 1)))], 54) [some (AO.cells [AV.v (Value.string m), AV.v (Value.string t), AV.v (Value.slice (some a1) n c1), AV.v b1] 64), some (AO.cells [AV.v (Value.string m), AV.v (Value.string t), AV.v (Value.slice (some a2) n c2), AV.v b2] 64)] 1100 (((Cnd.p (true = true)).a Cnd.t).a (((Cnd.p (Wk (AV.v (Value.bool (decide (Int.ofNat i < ↑n)))) (AV.lit true))).a Cnd.t).a (((Cnd.p (true = true)).a Cnd.t).a (((Cnd.p (i.blt n = true)).a Cnd.t).a (((Cnd.p (([0, 1].all fun j => (W.cell? ((a1.add (i * 2)).add j)).isSome) = true)).a ((Cnd.p ([AV.v ((W.cell? ((a1.add (i * 2)).add 0)).getD (Value.tuple (Array.mk []))), AV.v ((W.cell? (Addr.mk (a1.add (i * 2)).block ((a1.add (i * 2)).off + 1) none)).getD (Value.tuple (Array.mk [])))] = [AV.v (Value.string (AV.v ((W.cell? ((a1.add (i * 2)).add 0)).getD (Value.tuple (Array.mk [])))).strOf), AV.v (Value.string (AV.v ((W.cell? (Addr.mk (a1.add (i * 2)).block ((a1.add (i * 2)).off + 1) none)).getD (Value.tuple (Array.mk [])))).strOf)])).a ((Cnd.p (Wk (AV.agg [AV.v (Value.string (AV.v ((W.cell? ((a1.add (i * 2)).add 0)).getD (Value.tuple (Array.mk [])))).strOf), AV.v (Value.string (AV.v ((W.cell? (Addr.mk (a1.add (i * 2)).block ((a1.add (i * 2)).off + 1) none)).getD (Value.tuple (Array.mk [])))).strOf)]) (AV.agg [AV.v (Value.string k), AV.v (Value.string v)]))).a Cnd.t))).a (((Cnd.p (true = true)).a Cnd.t).a (((Cnd.p (i.blt n = true)).a Cnd.t).a (((Cnd.p (([0, 1].all fun j => (W.cell? ((a2.add (i * 2)).add j)).isSome) = true)).a ((Cnd.p ([AV.v ((W.cell? ((a2.add (i * 2)).add 0)).getD (Value.tuple (Array.mk []))), AV.v ((W.cell? (Addr.mk (a2.add (i * 2)).block ((a2.add (i * 2)).off + 1) none)).getD (Value.tuple (Array.mk [])))] = [AV.v (Value.string (AV.v ((W.cell? ((a2.add (i * 2)).add 0)).getD (Value.tuple (Array.mk [])))).strOf), AV.v (Value.string (AV.v ((W.cell? (Addr.mk (a2.add (i * 2)).block ((a2.add (i * 2)).off + 1) none)).getD (Value.tuple (Array.mk [])))).strOf)])).a ((Cnd.p (Wk (AV.agg [AV.v (Value.string (AV.v ((W.cell? ((a2.add (i * 2)).add 0)).getD (Value.tuple (Array.mk [])))).strOf), AV.v (Value.string (AV.v ((W.cell? (Addr.mk (a2.add (i * 2)).block ((a2.add (i * 2)).off + 1) none)).getD (Value.tuple (Array.mk [])))).strOf)]) (AV.agg [AV.v (Value.string k), AV.v (Value.string v)]))).a Cnd.t))).a (((Cnd.p (EqSem Tryz.prog 39 (Array.mk [Value.string k, Value.string v]) (Array.mk [Value.string k, Value.string v]) (valsQ [Value.string k, Value.string v] [Value.string k, Value.string v]))).a ((Cnd.p (Wk (AV.v (Value.bool !valsQ [Value.string k, Value.string v] [Value.string k, Value.string v])) (AV.lit false))).a Cnd.t)).a (((Cnd.p (Wk (AV.v (Value.int IntKind.i64 (IntKind.i64.wrap (Int.ofNat i + Int.ofNat 1)))) (AV.v (Value.int IntKind.i64 (Int.ofNat (i + 1)))))).a Cnd.t).a Cnd.t)))))))))) := by kernel_rfl
theorem oSmE_eq (W : World) (m t : ByteArray) (a1 a2 : Addr) (b1 b2 : Value) (n c1 c2 : Nat) (F : HP) : wLoop [] (hintL [(fSm, 4, 4, hv (.lit false))]) [] W fSm (loopN fSm 4) (tms 0 54 (aSm n)) (oSm m t (.slice (some a1) n c1) b1 (.slice (some a2) n c2) b2) [0, 1] iSm F = VT.leaf (AX.exit 0, [AV.ptr 0 0, AV.ptr 1 0, AV.any, AV.v (Value.int IntKind.i64 (Int.ofNat n))], 54) [some (AO.cells [AV.v (Value.string m), AV.v (Value.string t), AV.v (Value.slice (some a1) n c1), AV.v b1] 64), some (AO.cells [AV.v (Value.string m), AV.v (Value.string t), AV.v (Value.slice (some a2) n c2), AV.v b2] 64)] 1100 (((Cnd.p (true = true)).a Cnd.t).a (((Cnd.p (Wk (AV.v (Value.bool (decide (Int.ofNat n < ↑n)))) (AV.lit false))).a Cnd.t).a Cnd.t)) := by kernel_rfl
def gSm : List AV → AP (Nat × Nat) := fun tmps => match getL tmps 2, getL tmps 3 with
  | .ptr a _, .ptr b _ => .ret (a, b)
  | _, _ => .fail "same"
def nmSm (p : Nat × Nat) : Nat → Nat := fun k => match Nat.beq k 0 with
  | true => p.1
  | false => match Nat.beq k 1 with
    | true => p.2
    | false => k
def lSm (m t : ByteArray) (h1 b1 h2 b2 : Value) : List AV → AP (AX × List AV) := mkL gSm (fun _ => True) nmSm (fun _ => tms 0 54 (aSm 0)) (fun _ => oSm m t h1 b1 h2 b2) (fun _ => .leaf (.exit 0) (tms 0 54 []) [])
theorem oSmF_eq (W : World) (m t bt : ByteArray) (a1 a2 b1 b2 : Addr) (n c1 c2 k d1 d2 : Nat) (F : HP) : wRun [] (hintL (hSm bt)) [(fSm, 4, loopN fSm 4, lSm m t (.slice (some a1) n c1) (.slice (some b1) k d1) (.slice (some a2) n c2) (.slice (some b2) k d2))] W fSm [rqA m t (.slice (some a1) n c1) (.slice (some b1) k d1), rqA m t (.slice (some a2) n c2) (.slice (some b2) k d2)] [] [] F = VT.leaf (AV.v (Value.bool true)) [] 1102 (((Cnd.p (true = true)).a ((Cnd.p (AV.v (Value.string m) = AV.v (Value.string m))).a Cnd.t)).a (((Cnd.p (true = true)).a ((Cnd.p (AV.v (Value.string m) = AV.v (Value.string m))).a Cnd.t)).a (((Cnd.p (Wk (AV.v (Value.bool !m.toList == m.toList)) (AV.lit false))).a Cnd.t).a (((Cnd.p (true = true)).a ((Cnd.p (AV.v (Value.string t) = AV.v (Value.string t))).a Cnd.t)).a (((Cnd.p (true = true)).a ((Cnd.p (AV.v (Value.string t) = AV.v (Value.string t))).a Cnd.t)).a (((Cnd.p (Wk (AV.v (Value.bool !t.toList == t.toList)) (AV.lit false))).a Cnd.t).a (((Cnd.p (true = true)).a Cnd.t).a (((Cnd.p (bt.size = k ∧ ∀ (j : Nat), j < bt.size → (envW [] (hintL (hSm bt)) [(fSm, 4, loopN fSm 4, lSm m t (Value.slice (some a1) n c1) (Value.slice (some b1) k d1) (Value.slice (some a2) n c2) (Value.slice (some b2) k d2))] W F).W.cell? (b1.add j) = some (Value.int IntKind.u8 ↑(bt.data.toList.getD j 0).toNat))).a Cnd.t).a (((Cnd.p (true = true)).a Cnd.t).a (((Cnd.p (bt.size = k ∧ ∀ (j : Nat), j < bt.size → (envW [] (hintL (hSm bt)) [(fSm, 4, loopN fSm 4, lSm m t (Value.slice (some a1) n c1) (Value.slice (some b1) k d1) (Value.slice (some a2) n c2) (Value.slice (some b2) k d2))] W F).W.cell? (b2.add j) = some (Value.int IntKind.u8 ↑(bt.data.toList.getD j 0).toNat))).a Cnd.t).a (((Cnd.p (Wk (AV.v (Value.bool !bt.toList == bt.toList)) (AV.lit false))).a Cnd.t).a (((Cnd.p (true = true)).a Cnd.t).a (((Cnd.p (true = true)).a Cnd.t).a (((Cnd.p (Wk (AV.v (Value.bool ((↑n : Int) != ↑n))) (AV.lit false))).a Cnd.t).a ((Cnd.p ((fSm, 4, loopN fSm 4, lSm m t (Value.slice (some a1) n c1) (Value.slice (some b1) k d1) (Value.slice (some a2) n c2) (Value.slice (some b2) k d2)).snd.snd.fst = (fSm, 4, loopN fSm 4, lSm m t (Value.slice (some a1) n c1) (Value.slice (some b1) k d1) (Value.slice (some a2) n c2) (Value.slice (some b2) k d2)).snd.snd.fst)).a ((Cnd.p True).a ((Cnd.p (VW [AV.v (Value.agg (Array.mk [Value.string m, Value.string t, Value.slice (some a1) n c1, Value.slice (some b1) k d1])), AV.v (Value.agg (Array.mk [Value.string m, Value.string t, Value.slice (some a2) n c2, Value.slice (some b2) k d2])), AV.ptr 1100 0, AV.ptr 1101 0, AV.v (Value.bool false), AV.v (Value.int IntKind.i64 (Int.ofNat 0)), AV.ptr 1100 0, AV.v (Value.string m), AV.ptr 1101 0, AV.v (Value.string m), AV.lit false, AV.lit false, AV.ptr 1100 1, AV.v (Value.string t), AV.ptr 1101 1, AV.v (Value.string t), AV.lit false, AV.lit false, AV.lit false, AV.ptr 1100 3, AV.v (Value.slice (some b1) k d1), AV.v (Value.string bt), AV.ptr 1101 3, AV.v (Value.slice (some b2) k d2), AV.v (Value.string bt), AV.lit false, AV.lit false, AV.lit false, AV.ptr 1100 2, AV.v (Value.slice (some a1) n c1), AV.v (Value.int IntKind.i64 ↑n), AV.ptr 1101 2, AV.v (Value.slice (some a2) n c2), AV.v (Value.int IntKind.i64 ↑n), AV.lit false, AV.lit false, AV.undef, AV.undef, AV.undef, AV.undef, AV.undef, AV.undef, AV.undef, AV.undef, AV.undef, AV.undef, AV.undef, AV.undef, AV.undef, AV.undef, AV.undef, AV.undef, AV.undef, AV.undef] [AV.any, AV.any, AV.ptr 1100 0, AV.ptr 1101 0, AV.any, AV.v (Value.int IntKind.i64 (Int.ofNat 0)), AV.any, AV.any, AV.any, AV.any, AV.any, AV.any, AV.any, AV.any, AV.any, AV.any, AV.any, AV.any, AV.any, AV.any, AV.any, AV.any, AV.any, AV.any, AV.any, AV.any, AV.any, AV.any, AV.any, AV.any, AV.any, AV.any, AV.any, AV.any, AV.any, AV.any, AV.any, AV.any, AV.any, AV.any, AV.any, AV.any, AV.any, AV.any, AV.any, AV.any, AV.any, AV.any, AV.any, AV.any, AV.any, AV.any, AV.any, AV.any])).a ((Cnd.p (OW (AO.cells [AV.v (Value.string m), AV.v (Value.string t), AV.v (Value.slice (some a1) n c1), AV.v (Value.slice (some b1) k d1)] 64) (AO.cells [AV.v (Value.string m), AV.v (Value.string t), AV.v (Value.slice (some a1) n c1), AV.v (Value.slice (some b1) k d1)] 64))).a ((Cnd.p (OW (AO.cells [AV.v (Value.string m), AV.v (Value.string t), AV.v (Value.slice (some a2) n c2), AV.v (Value.slice (some b2) k d2)] 64) (AO.cells [AV.v (Value.string m), AV.v (Value.string t), AV.v (Value.slice (some a2) n c2), AV.v (Value.slice (some b2) k d2)] 64))).a Cnd.t))))))))))))))))))) := by kernel_rfl
theorem oSmZ_eq (W : World) (m t bt : ByteArray) (b1 b2 : Addr) (k d1 d2 : Nat) (F : HP) : wRun [] (hintL (hSm bt ++ [(fSm, 4, 4, hv (.lit false))])) [] W fSm [rqA m t (.slice none 0 0) (.slice (some b1) k d1), rqA m t (.slice none 0 0) (.slice (some b2) k d2)] [] [] F = VT.leaf (AV.v (Value.bool true)) [] 1102 (((Cnd.p (true = true)).a ((Cnd.p (AV.v (Value.string m) = AV.v (Value.string m))).a Cnd.t)).a (((Cnd.p (true = true)).a ((Cnd.p (AV.v (Value.string m) = AV.v (Value.string m))).a Cnd.t)).a (((Cnd.p (Wk (AV.v (Value.bool !m.toList == m.toList)) (AV.lit false))).a Cnd.t).a (((Cnd.p (true = true)).a ((Cnd.p (AV.v (Value.string t) = AV.v (Value.string t))).a Cnd.t)).a (((Cnd.p (true = true)).a ((Cnd.p (AV.v (Value.string t) = AV.v (Value.string t))).a Cnd.t)).a (((Cnd.p (Wk (AV.v (Value.bool !t.toList == t.toList)) (AV.lit false))).a Cnd.t).a (((Cnd.p (true = true)).a Cnd.t).a (((Cnd.p (bt.size = k ∧ ∀ (j : Nat), j < bt.size → (envW [] (hintL (hSm bt ++ [(fSm, 4, 4, hv (AV.lit false))])) [] W F).W.cell? (b1.add j) = some (Value.int IntKind.u8 ↑(bt.data.toList.getD j 0).toNat))).a Cnd.t).a (((Cnd.p (true = true)).a Cnd.t).a (((Cnd.p (bt.size = k ∧ ∀ (j : Nat), j < bt.size → (envW [] (hintL (hSm bt ++ [(fSm, 4, 4, hv (AV.lit false))])) [] W F).W.cell? (b2.add j) = some (Value.int IntKind.u8 ↑(bt.data.toList.getD j 0).toNat))).a Cnd.t).a (((Cnd.p (Wk (AV.v (Value.bool !bt.toList == bt.toList)) (AV.lit false))).a Cnd.t).a (((Cnd.p (true = true)).a Cnd.t).a (((Cnd.p (true = true)).a Cnd.t).a (((Cnd.p (Wk (AV.v (Value.bool false)) (AV.lit false))).a Cnd.t).a (((Cnd.p (true = true)).a Cnd.t).a (((Cnd.p (Wk (AV.v (Value.bool false)) (AV.lit false))).a Cnd.t).a Cnd.t)))))))))))))))) := by kernel_rfl
end
end Go.Proofs.YtpijbbobejeemaaGreatDoor.Htp

/- Http: the document's Same. -/
set_option linter.unusedVariables false
set_option linter.unusedSimpArgs false
set_option maxRecDepth 100000
namespace Go.Proofs.YtpijbbobejeemaaGreatDoor.Htp
open Go Go.RowKit Go.Proofs.YtpijbbobejeemaaGreatDoor.Eng Go.Proofs.YtpijbbobejeemaaGreatDoor.Kit Go.Proofs.YtpijbbobejeemaaGreatDoor.Tree
theorem pair_equal (a b : ByteArray) (w : World) : (Op.equalIn 10000 39 (.agg (Array.mk [.string a, .string b])) (.agg (Array.mk [.string a, .string b]))).run Tryz.prog w = .ok true w := by
  have u9 := Tryz.underlying9
  have a9 := Tryz.isAgg9
  have z9 := Tryz.sizeOf9
  have hS : Tryz.prog.underlying 39 = some (.struct (Tryz.prog.fieldsOf 39)) := by kernel_rfl
  rw [show (10000 : Nat) = 9999 + 1 from rfl, run_equalIn_agg w 9999 _ _ _ hS (by kernel_rfl)]
  simp only [Program.fieldsOf, Tryz.underlying39]
  go_simp
  try simp
theorem pairQ_self (a b : ByteArray) : valsQ [Value.string a, Value.string b] [Value.string a, Value.string b] = true := by simp [valsQ, valQ]
theorem pair_sem (a b : ByteArray) : EqSem Tryz.prog 39 (Array.mk [.string a, .string b]) (Array.mk [.string a, .string b]) (valsQ [Value.string a, Value.string b] [Value.string a, Value.string b]) := by
  intro w
  rw [pairQ_self]
  exact pair_equal a b w
theorem neq_self (s : ByteArray) : (!s.toList == s.toList) = false := by rw [beq_self_eq_true]; rfl
theorem cast_neq (n : Nat) : ((n : Int) != (n : Int)) = false := by simp
theorem bt_size (B : List UInt8) : (tB B).size = B.length := rfl
theorem bt_cells {W : World} {a : Addr} {B : List UInt8} (h : BAt W.cell? a B) : ∀ (j : Nat), j < (tB B).size → W.cell? (a.add j) = some (Value.int IntKind.u8 ↑((tB B).data.toList.getD j 0).toNat) := fun j hj => by
  rw [tB_data]
  have hj : j < B.length := hj
  have := h j B[j] (List.getElem?_eq_getElem hj)
  rw [this]
  simp [List.getD_eq_getElem?_getD, List.getElem?_eq_getElem hj]
theorem sm_loop {W : World} {m t : ByteArray} {L : Hds} (hL : L.length ≤ 4000000) {a1 a2 : Addr} {c1 c2 : Nat} {b1 b2 : Value} (h1 : HAt W.cell? (some a1) L) (h2 : HAt W.cell? (some a2) L) :
    LTri Tryz.prog W (loopN fSm 4) (tms 0 54 (aSm 0)) (oSm m t (.slice (some a1) L.length c1) b1 (.slice (some a2) L.length c2) b2) (.exit 0) (tms 0 54 []) [] := by
  refine ltri_run (W := W) (g := fSm) (b := loopN fSm 4) (σ := {i : Nat // i ≤ L.length}) 54 (fun i => aSm i.1) (fun _ => oSm m t (.slice (some a1) L.length c1) b1 (.slice (some a2) L.length c2) b2) (.exit 0) [] [] (fun i => L.length - i.1) [0, 1] iSm (by intro h; cases h) (fun _ => rfl) rfl ?_ ⟨0, Nat.zero_le _⟩
  rintro ⟨i, hi⟩
  simp only
  by_cases hl : i < L.length
  · have hw := wrap_succ i (by omega)
    have e1 := ltTN hl
    have g3 : i.blt L.length = true := by rw [Nat.blt_eq]; exact hl
    obtain ⟨x1, q1, k1⟩ := h1 i L[i] (List.getElem?_eq_getElem hl)
    obtain ⟨x2, q2, k2⟩ := h2 i L[i] (List.getElem?_eq_getElem hl)
    obtain rfl := Option.some.inj q1
    obtain rfl := Option.some.inj q2
    generalize L[i] = p at *
    obtain ⟨k, v⟩ := p
    have y0 : W.cell? ((a1.add (i * 2)).add 0) = some (.string k) := k1 0 _ rfl
    have y1 : W.cell? ((a1.add (i * 2)).add 1) = some (.string v) := k1 1 _ rfl
    have y1' : W.cell? (Addr.mk (a1.add (i * 2)).block ((a1.add (i * 2)).off + 1) none) = some (.string v) := y1
    have z0 : W.cell? ((a2.add (i * 2)).add 0) = some (.string k) := k2 0 _ rfl
    have z1 : W.cell? ((a2.add (i * 2)).add 1) = some (.string v) := k2 1 _ rfl
    have z1' : W.cell? (Addr.mk (a2.add (i * 2)).block ((a2.add (i * 2)).off + 1) none) = some (.string v) := z1
    have ya : ([0, 1].all fun j => (W.cell? ((a1.add (i * 2)).add j)).isSome) = true := by simp only [List.all_cons, List.all_nil, y0, y1, Option.isSome_some, Bool.and_true]
    have za : ([0, 1].all fun j => (W.cell? ((a2.add (i * 2)).add j)).isSome) = true := by simp only [List.all_cons, List.all_nil, z0, z1, Option.isSome_some, Bool.and_true]
    have hq : (!valsQ [Value.string k, Value.string v] [Value.string k, Value.string v]) = false := by rw [pairQ_self]; rfl
    refine ⟨[], hintL [(fSm, 4, 4, hv (.lit true)), (fSm, 6, 4, hv (.agg [sv k, sv v])), (fSm, 6, 9, hv (.agg [sv k, sv v])), (fSm, 6, 10, hv (.lit false)), (fSm, 5, 1, hv (iv (Int.ofNat (i + 1))))], [], fun _ _ => noC, fun _ _ => noL, fun F => ?_⟩
    refine cast (congrArg (VAll _) (oSmR_eq W m t k v a1 a2 b1 b2 L.length c1 c2 i F).symm) ⟨⟨?_, rfl, .inl ⟨rfl, ⟨i + 1, hl⟩, sub_down hl, [], rfl, rfl, ⟨Wk.refl _, Wk.refl _, Wk.refl _, trivial⟩, ⟨_, rfl, OW.refl _⟩, ⟨_, rfl, OW.refl _⟩, trivial⟩⟩⟩
    simp only [Cnd.holds, g3, ya, za, y0, y1', z0, z1', Option.getD_some, AV.strOf, Nat.blt_eq, true_and, and_true]
    and_intros
    all_goals first
      | (with_reducible exact wk_int hw)
      | exact wk_litE e1
      | exact wk_litE hq
      | exact pair_sem k v
      | (with_reducible exact trivial)
      | (with_reducible exact rfl)
      | (with_reducible exact Wk.refl _)
      | (with_reducible exact VW.refl _)
      | (with_reducible exact OW.refl _)
      | (with_reducible exact wk_lit _)
      | (with_reducible assumption)
      | exact rfl
      | exact Wk.refl _
      | exact VW.refl _
      | exact OW.refl _
      | ((repeat (first | exact VW.nil | refine VW.cons (Wk.refl _) ?_ | refine VW.cons (Wk.any _) ?_ | refine VW.cons (wk_cap (Nat.le_refl _)) ?_)); done)
  · have hie : i = L.length := by omega
    subst hie
    refine ⟨[], hintL [(fSm, 4, 4, hv (.lit false))], [], fun _ _ => noC, fun _ _ => noL, fun F => ?_⟩
    refine cast (congrArg (VAll _) (oSmE_eq W m t a1 a2 b1 b2 L.length c1 c2 F).symm) ⟨⟨?_, rfl, .inr ⟨rfl, [], rfl, rfl, trivial, trivial⟩⟩⟩
    simp only [Cnd.holds, rens_rowV, Nat.blt_eq, true_and, and_true]
    and_intros
    all_goals first
      | exact wk_litE (ltFN (Nat.le_refl _))
      | (with_reducible exact trivial)
      | (with_reducible exact rfl)
      | (with_reducible exact Wk.refl _)
      | (with_reducible exact VW.refl _)
      | (with_reducible exact OW.refl _)
      | (with_reducible exact wk_lit _)
      | (with_reducible assumption)
      | exact rfl
      | exact Wk.refl _
      | exact VW.refl _
      | exact OW.refl _
      | ((repeat (first | exact VW.nil | refine VW.cons (Wk.refl _) ?_ | refine VW.cons (Wk.any _) ?_ | refine VW.cons (wk_cap (Nat.le_refl _)) ?_)); done)
theorem gSm_ro : ∀ args, RO (gSm args) := by
  intro args
  unfold gSm
  split
  · exact RO.ret _
  · exact RO.fail _
theorem Same_tri {W : World} {x : Rqm} {r1 r2 : Rqr} (h1 : QAt W.cell? x r1) (h2 : QAt W.cell? x r2) (hL : x.1.2.2.length ≤ 4000000) : Tri Tryz.prog W fSm [.v (.agg (encQ r1).toArray), .v (.agg (encQ r2).toArray)] [] (bv true) [] := by
  obtain ⟨⟨m, t, L⟩, B⟩ := x
  obtain ⟨m1, t1, ha1, hn1, hc1, ba1, bn1, bc1⟩ := r1
  obtain ⟨m2, t2, ha2, hn2, hc2, ba2, bn2, bc2⟩ := r2
  obtain ⟨d1, d2, d3, d4, p1, p2, p3⟩ := h1
  obtain ⟨e1, e2, e3, e4, q1, q2, q3⟩ := h2
  simp only at d1 d2 d3 d4 e1 e2 e3 e4 p1 p2 p3 q1 q2 q3 hL
  subst d1 d2 d3 d4 e1 e2 e3 e4
  have y1 := bt_cells p2
  have y2 := bt_cells q2
  cases L with
  | nil =>
    obtain ⟨rfl, rfl⟩ := p3.1 rfl
    obtain ⟨rfl, rfl⟩ := q3.1 rfl
    refine tri_run (con := []) (hints := hintL (hSm (tB B) ++ [(fSm, 4, 4, hv (.lit false))])) (lc := []) [] rfl (fun F _ => noC) (fun F _ => noL) fun F => ?_
    refine cast (congrArg (VAll _) (oSmZ_eq W m2 t2 (tB B) ba1 ba2 B.length bc1 bc2 F).symm) ⟨⟨?_, (fit_mk (vs' := [bv true]) (H' := []) [] rfl rfl (VW.refl _) trivial).fits rfl⟩⟩
    simp only [Cnd.holds, rens_rowV, Nat.blt_eq, true_and, and_true]
    and_intros
    all_goals first
      | exact wk_litE (neq_self _)
      | exact y1
      | exact y2
      | exact bt_size _
      | (with_reducible exact trivial)
      | (with_reducible exact rfl)
      | (with_reducible exact Wk.refl _)
      | (with_reducible exact VW.refl _)
      | (with_reducible exact OW.refl _)
      | (with_reducible exact wk_lit _)
      | (with_reducible assumption)
      | exact rfl
      | exact Wk.refl _
      | exact VW.refl _
      | exact OW.refl _
      | ((repeat (first | exact VW.nil | refine VW.cons (Wk.refl _) ?_ | refine VW.cons (Wk.any _) ?_ | refine VW.cons (wk_cap (Nat.le_refl _)) ?_)); done)
  | cons p r =>
    obtain ⟨a1, rfl⟩ := p3.2 (by intro e; cases e)
    obtain ⟨a2, rfl⟩ := q3.2 (by intro e; cases e)
    generalize p :: r = L at *
    refine tri_run (con := []) (hints := hintL (hSm (tB B))) (lc := [(fSm, 4, loopN fSm 4, lSm m2 t2 (.slice (some a1) L.length hc1) (.slice (some ba1) B.length bc1) (.slice (some a2) L.length hc2) (.slice (some ba2) B.length bc2))]) [] rfl (fun F _ => noC) (fun F hF => one_l (mkL_ok hF gSm_ro (fun _ _ => by
      simp only [RT.pick]
      exact sm_loop hL p1 q1) fun _ => by
      simp only [RT.pick]
      exact closedT rfl rfl (all_cons rfl (all_cons rfl (all_cons trivial all_nil))) (all_cons ⟨trivial, trivial, trivial, trivial, trivial⟩ (all_cons ⟨trivial, trivial, trivial, trivial, trivial⟩ all_nil)) all_nil all_nil)) fun F => ?_
    refine cast (congrArg (VAll _) (oSmF_eq W m2 t2 (tB B) a1 a2 ba1 ba2 L.length hc1 hc2 B.length bc1 bc2 F).symm) ⟨⟨?_, (fit_mk (vs' := [bv true]) (H' := []) [] rfl rfl (VW.refl _) trivial).fits rfl⟩⟩
    simp only [Cnd.holds, rens_rowV, Nat.blt_eq, true_and, and_true]
    and_intros
    all_goals first
      | exact wk_litE (neq_self _)
      | exact wk_litE (cast_neq _)
      | exact y1
      | exact y2
      | exact bt_size _
      | (with_reducible exact trivial)
      | (with_reducible exact rfl)
      | (with_reducible exact Wk.refl _)
      | (with_reducible exact VW.refl _)
      | (with_reducible exact OW.refl _)
      | (with_reducible exact wk_lit _)
      | (with_reducible assumption)
      | exact rfl
      | exact Wk.refl _
      | exact VW.refl _
      | exact OW.refl _
      | ((repeat (first | exact VW.nil | refine VW.cons (Wk.refl _) ?_ | refine VW.cons (Wk.any _) ?_ | refine VW.cons (wk_cap (Nat.le_refl _)) ?_)); done)
end Go.Proofs.YtpijbbobejeemaaGreatDoor.Htp

/- Http: HttpPieces: runs. -/
set_option linter.unusedVariables false
set_option linter.unusedSimpArgs false
set_option maxRecDepth 100000
namespace Go.Proofs.YtpijbbobejeemaaGreatDoor.Htp
open Go Go.RowKit Go.Proofs.YtpijbbobejeemaaGreatDoor.Eng Go.Proofs.YtpijbbobejeemaaGreatDoor.Kit Go.Proofs.YtpijbbobejeemaaGreatDoor.Tree
noncomputable section
abbrev fPcs : Nat := 4
def aPc (p q k i : Nat) : List (Nat × AV) := [(5, sQ p k), (8, sQ q k), (46, iv (Int.ofNat k)), (47, iv (Int.ofNat i))]
def oPc (R1 R2 : List Rqr) (M : List Rqm) : LH := [(0, .cells (rowV encQ R2) tRqs), (1000, .any (frz (PQ R2 M))), (1002, .cells (rowV encQ R1) tRqs), (1003, .any (frz (PQ R1 M)))]
def kPc : List Nat := [0, 1000, 1002, 1003]
def iPc : List Nat := [5, 8, 46, 47]
def cSmR (R1 R2 : List Rqr) (M : List Rqm) (r1 r2 : Rqr) : List AV → Option (AP AV) := fun args => match args with
  | [.v a, .v b] => some (.read 1003 fun o1 => .read 1000 fun o2 => .need ((o1 = .any (frz (PQ R1 M)) ∧ o2 = .any (frz (PQ R2 M))) ∧ a = .agg (encQ r1).toArray ∧ b = .agg (encQ r2).toArray) (.ret (bv true)))
  | _ => some (.fail "same")
def rqQ (r : Rqr) : AV := .v (.agg (encQ r).toArray)
theorem oPcR_eq (W : World) (R1 R2 : List Rqr) (M : List Rqm) (r1 r2 : Rqr) (k i : Nat) (F : HP) : wLoop [(fSm, cSmR R1 R2 M r1 r2)] (hintL [(fPcs, 8, 0, hv (.lit true)), (fPcs, 10, 3, hv (rqQ r1)), (fPcs, 10, 7, hv (rqQ r2)), (fPcs, 10, 9, hv (.lit false)), (fPcs, 12, 0, hv (iv (Int.ofNat (i + 1))))]) [] W fPcs (loopN fPcs 8) (tms 0 61 (aPc 1002 0 k i)) (oPc R1 R2 M) kPc iPc F = VT.leaf (AX.normal, [AV.slice 1002 0 k 4 (Cp.lo k), AV.slice 0 0 k 4 (Cp.lo k), AV.v (Value.int IntKind.i64 (Int.ofNat k)), AV.v (Value.int IntKind.i64 (Int.ofNat (i + 1)))], 61) [some (AO.cells (rowV encQ R2) 64), some (AO.any (frz (PQ R2 M))), some (AO.cells (rowV encQ R1) 64), some (AO.any (frz (PQ R1 M)))] 1100 (((Cnd.p (Wk (AV.v (Value.bool (decide (Int.ofNat i < Int.ofNat k)))) (AV.lit true))).a Cnd.t).a (((Cnd.p (i.blt k = true)).a Cnd.t).a (((Cnd.p ((List.take 4 (List.drop (0 + i * 4) (rowV encQ R1))).length.beq 4 = true)).a ((Cnd.p (List.take 4 (List.drop (0 + i * 4) (rowV encQ R1)) = [AV.v (Value.string ((List.take 4 (List.drop (0 + i * 4) (rowV encQ R1))).getD 0 (AV.undef)).strOf), AV.v (Value.string ((List.take 4 (List.drop (0 + i * 4) (rowV encQ R1))).getD 1 (AV.undef)).strOf), (List.take 4 (List.drop (0 + i * 4) (rowV encQ R1))).getD 2 (AV.undef), (List.take 4 (List.drop (0 + i * 4) (rowV encQ R1))).getD 3 (AV.undef)])).a ((Cnd.p (Wk (AV.agg [AV.v (Value.string ((List.take 4 (List.drop (0 + i * 4) (rowV encQ R1))).getD 0 (AV.undef)).strOf), AV.v (Value.string ((List.take 4 (List.drop (0 + i * 4) (rowV encQ R1))).getD 1 (AV.undef)).strOf), (List.take 4 (List.drop (0 + i * 4) (rowV encQ R1))).getD 2 (AV.undef), (List.take 4 (List.drop (0 + i * 4) (rowV encQ R1))).getD 3 (AV.undef)]) (AV.v (Value.agg (Array.mk [Value.string r1.m, Value.string r1.t, Value.slice r1.ha r1.hn r1.hc, Value.slice (some r1.ba) r1.bn r1.bc]))))).a Cnd.t))).a (((Cnd.p (i.blt k = true)).a Cnd.t).a (((Cnd.p ((List.take 4 (List.drop (0 + i * 4) (rowV encQ R2))).length.beq 4 = true)).a ((Cnd.p (List.take 4 (List.drop (0 + i * 4) (rowV encQ R2)) = [AV.v (Value.string ((List.take 4 (List.drop (0 + i * 4) (rowV encQ R2))).getD 0 (AV.undef)).strOf), AV.v (Value.string ((List.take 4 (List.drop (0 + i * 4) (rowV encQ R2))).getD 1 (AV.undef)).strOf), (List.take 4 (List.drop (0 + i * 4) (rowV encQ R2))).getD 2 (AV.undef), (List.take 4 (List.drop (0 + i * 4) (rowV encQ R2))).getD 3 (AV.undef)])).a ((Cnd.p (Wk (AV.agg [AV.v (Value.string ((List.take 4 (List.drop (0 + i * 4) (rowV encQ R2))).getD 0 (AV.undef)).strOf), AV.v (Value.string ((List.take 4 (List.drop (0 + i * 4) (rowV encQ R2))).getD 1 (AV.undef)).strOf), (List.take 4 (List.drop (0 + i * 4) (rowV encQ R2))).getD 2 (AV.undef), (List.take 4 (List.drop (0 + i * 4) (rowV encQ R2))).getD 3 (AV.undef)]) (AV.v (Value.agg (Array.mk [Value.string r2.m, Value.string r2.t, Value.slice r2.ha r2.hn r2.hc, Value.slice (some r2.ba) r2.bn r2.bc]))))).a Cnd.t))).a (((Cnd.p ((AO.any (frz (PQ R1 M)) = AO.any (frz (PQ R1 M)) ∧ AO.any (frz (PQ R2 M)) = AO.any (frz (PQ R2 M))) ∧ Value.agg (Array.mk [Value.string r1.m, Value.string r1.t, Value.slice r1.ha r1.hn r1.hc, Value.slice (some r1.ba) r1.bn r1.bc]) = Value.agg (Array.mk [Value.string r1.m, Value.string r1.t, Value.slice r1.ha r1.hn r1.hc, Value.slice (some r1.ba) r1.bn r1.bc]) ∧ Value.agg (Array.mk [Value.string r2.m, Value.string r2.t, Value.slice r2.ha r2.hn r2.hc, Value.slice (some r2.ba) r2.bn r2.bc]) = Value.agg (Array.mk [Value.string r2.m, Value.string r2.t, Value.slice r2.ha r2.hn r2.hc, Value.slice (some r2.ba) r2.bn r2.bc]))).a Cnd.t).a (((Cnd.p (Wk (AV.v (Value.bool false)) (AV.lit false))).a Cnd.t).a (((Cnd.p (Wk (AV.v (Value.int IntKind.i64 (IntKind.i64.wrap (Int.ofNat i + Int.ofNat 1)))) (AV.v (Value.int IntKind.i64 (Int.ofNat (i + 1)))))).a Cnd.t).a Cnd.t)))))))) := by kernel_rfl
theorem oPcE_eq (W : World) (R1 R2 : List Rqr) (M : List Rqm) (k : Nat) (F : HP) : wLoop [] (hintL [(fPcs, 8, 0, hv (.lit false))]) [] W fPcs (loopN fPcs 8) (tms 0 61 (aPc 1002 0 k k)) (oPc R1 R2 M) kPc iPc F = VT.leaf (AX.exit 0, [AV.slice 1002 0 k 4 (Cp.lo k), AV.slice 0 0 k 4 (Cp.lo k), AV.v (Value.int IntKind.i64 (Int.ofNat k)), AV.v (Value.int IntKind.i64 (Int.ofNat k))], 61) [some (AO.cells (rowV encQ R2) 64), some (AO.any (frz (PQ R2 M))), some (AO.cells (rowV encQ R1) 64), some (AO.any (frz (PQ R1 M)))] 1100 (((Cnd.p (Wk (AV.v (Value.bool (decide (Int.ofNat k < Int.ofNat k)))) (AV.lit false))).a Cnd.t).a Cnd.t) := by kernel_rfl
def gPc : List AV → AP (Nat × Nat) := fun tmps => match getL tmps 5, getL tmps 8 with
  | .slice a _ _ _ _, .slice b _ _ _ _ => .ret (a, b)
  | _, _ => .fail "requests"
def lPc (M : List Rqm) (k : Nat) : List AV → AP (AX × List AV) := mkL gPc (fun _ => True) nm01 (fun _ => tms 0 61 (aPc 0 1 k 0)) (fun _ => [(0, outO M), (1, outO M)]) (fun _ => .leaf (.exit 0) (tms 0 61 []) [])
def gTd : List AV → AP Value := fun args => match args with
  | [_, .v x] => .ret x
  | _ => .fail "told"
def cTold (b c : Value) (M : List Rqm) (k s : Nat) : List AV → Option (AP AV) := mkC gTd (fun x => x = .slice none 0 0 ∨ x = c) (fun _ i => i) (fun x => [.v b, .v x]) (fun _ => []) (fun _ => .leaf .ret [.tuple [sQ 1000 k, iv (Int.ofNat s), bv true]] [(1000, outO M)])
theorem oPcs_eq (W : World) (b c : Value) (M : List Rqm) (k s : Nat) (F : HP) : wRun [(fSpeaks, cSpk), (fTold, cTold b c M k s)] (hintL [(fPcs, 1, 1, hv (.lit false)), (fPcs, 5, 1, hv (.lit false)), (fPcs, 5, 4, hv (.lit false)), (fPcs, 5, 11, hv (.lit false)), (fPcs, 5, 16, hv (.lit false)), (fPcs, 7, 1, hv (iv (Int.ofNat k)))]) [(fPcs, 8, loopN fPcs 8, lPc M k)] W fPcs [.v b, .v c] [] [] F = VT.leaf (AV.v (Value.bool true)) [] 1102 (((Cnd.p True).a Cnd.t).a (((Cnd.p (Wk (AV.v (Value.bool false)) (AV.lit false))).a Cnd.t).a (((Cnd.p (Value.slice none 0 0 = Value.slice none 0 0 ∨ Value.slice none 0 0 = c)).a ((Cnd.p (VW [AV.v b, AV.v (Value.slice none 0 0)] [AV.v b, AV.v (Value.slice none 0 0)])).a Cnd.t)).a (((Cnd.p (c = Value.slice none 0 0 ∨ c = c)).a ((Cnd.p (VW [AV.v b, AV.v c] [AV.v b, AV.v c])).a Cnd.t)).a (((Cnd.p (Wk (AV.v (Value.bool false)) (AV.lit false))).a Cnd.t).a (((Cnd.p (Wk (AV.v (Value.bool false)) (AV.lit false))).a Cnd.t).a (((Cnd.p (Wk (AV.v (Value.bool ((↑k : Int) != ↑k))) (AV.lit false))).a Cnd.t).a (((Cnd.p (Wk (AV.v (Value.bool (Int.ofNat s != Int.ofNat s))) (AV.lit false))).a Cnd.t).a (((Cnd.p (Wk (AV.v (Value.int IntKind.i64 ↑k)) (AV.v (Value.int IntKind.i64 (Int.ofNat k))))).a Cnd.t).a ((Cnd.p ((fPcs, 8, loopN fPcs 8, lPc M k).snd.snd.fst = (fPcs, 8, loopN fPcs 8, lPc M k).snd.snd.fst)).a ((Cnd.p True).a ((Cnd.p (VW [AV.v b, AV.v c, AV.undef, AV.undef, AV.v (Value.bool false), AV.slice 1100 0 k 4 (Cp.lo k), AV.v (Value.int IntKind.i64 (Int.ofNat s)), AV.v (Value.bool true), AV.slice 1101 0 k 4 (Cp.lo k), AV.v (Value.int IntKind.i64 (Int.ofNat s)), AV.v (Value.bool true), AV.undef, AV.v (Value.bool true), AV.lit false, AV.tuple [AV.slice 1100 0 k 4 (Cp.lo k), AV.v (Value.int IntKind.i64 (Int.ofNat s)), AV.v (Value.bool true)], AV.v b, AV.tuple [AV.slice 1100 0 k 4 (Cp.lo k), AV.v (Value.int IntKind.i64 (Int.ofNat s)), AV.v (Value.bool true)], AV.slice 1100 0 k 4 (Cp.lo k), AV.v (Value.int IntKind.i64 (Int.ofNat s)), AV.v (Value.bool true), AV.tuple [AV.slice 1101 0 k 4 (Cp.lo k), AV.v (Value.int IntKind.i64 (Int.ofNat s)), AV.v (Value.bool true)], AV.v b, AV.v c, AV.tuple [AV.slice 1101 0 k 4 (Cp.lo k), AV.v (Value.int IntKind.i64 (Int.ofNat s)), AV.v (Value.bool true)], AV.slice 1101 0 k 4 (Cp.lo k), AV.v (Value.int IntKind.i64 (Int.ofNat s)), AV.v (Value.bool true), AV.v (Value.bool true), AV.lit false, AV.lit false, AV.v (Value.bool true), AV.lit false, AV.lit false, AV.lit false, AV.slice 1100 0 k 4 (Cp.lo k), AV.v (Value.int IntKind.i64 ↑k), AV.slice 1101 0 k 4 (Cp.lo k), AV.v (Value.int IntKind.i64 ↑k), AV.lit false, AV.lit false, AV.lit false, AV.v (Value.int IntKind.i64 (Int.ofNat s)), AV.v (Value.int IntKind.i64 (Int.ofNat s)), AV.lit false, AV.lit false, AV.slice 1100 0 k 4 (Cp.lo k), AV.v (Value.int IntKind.i64 (Int.ofNat k)), AV.v (Value.int IntKind.i64 (Int.ofNat 0)), AV.undef, AV.undef, AV.undef, AV.undef, AV.undef, AV.undef, AV.undef, AV.undef, AV.undef, AV.undef, AV.undef, AV.undef, AV.undef] [AV.any, AV.any, AV.any, AV.any, AV.any, AV.slice 1100 0 k 4 (Cp.lo k), AV.any, AV.any, AV.slice 1101 0 k 4 (Cp.lo k), AV.any, AV.any, AV.any, AV.any, AV.any, AV.any, AV.any, AV.any, AV.any, AV.any, AV.any, AV.any, AV.any, AV.any, AV.any, AV.any, AV.any, AV.any, AV.any, AV.any, AV.any, AV.any, AV.any, AV.any, AV.any, AV.any, AV.any, AV.any, AV.any, AV.any, AV.any, AV.any, AV.any, AV.any, AV.any, AV.any, AV.any, AV.v (Value.int IntKind.i64 (Int.ofNat k)), AV.v (Value.int IntKind.i64 (Int.ofNat 0)), AV.any, AV.any, AV.any, AV.any, AV.any, AV.any, AV.any, AV.any, AV.any, AV.any, AV.any, AV.any, AV.any])).a ((Cnd.p (OW (AO.own Md.nothing (exHP (fun R => R.length = M.length) (outL M))) (AO.own Md.nothing (exHP (fun R => R.length = M.length) (outL M))))).a ((Cnd.p (OW (AO.own Md.nothing (exHP (fun R => R.length = M.length) (outL M))) (AO.own Md.nothing (exHP (fun R => R.length = M.length) (outL M))))).a Cnd.t)))))))))))))) := by kernel_rfl
end
end Go.Proofs.YtpijbbobejeemaaGreatDoor.Htp

/- Http: HttpPieces. -/
set_option linter.unusedVariables false
set_option linter.unusedSimpArgs false
set_option maxRecDepth 100000
namespace Go.Proofs.YtpijbbobejeemaaGreatDoor.Htp
open Go Go.RowKit Go.Proofs.YtpijbbobejeemaaGreatDoor.Eng Go.Proofs.YtpijbbobejeemaaGreatDoor.Kit Go.Proofs.YtpijbbobejeemaaGreatDoor.Tree
theorem next_hds {w : List UInt8} {m t : ByteArray} {L : Hds} {B : List UInt8} {k : Nat} (h : nextL hdB w = .yes (m, t, L) B k) : L.length ≤ 4000000 := by
  unfold nextL at h
  cases hn : hdN w with
  | none =>
    rw [hn] at h
    simp only at h
    split at h <;> cases h
  | some n =>
    obtain ⟨n2, nw⟩ := hdN_len hn
    rw [hn] at h
    simp only at h
    split at h
    · cases h
    · rename_i h8
      obtain ⟨l0, ls, hM⟩ := linesB_cons (w.take n)
      have hh : hdB (w.take n) = hdL (l0 :: ls) := by unfold hdB; rw [hM]
      have hln : ls.length ≤ 8192 := by
        have h1 := splB_len (sufB (tB (w.take n)) crB2) crB (by decide)
        have e : splB (sufB (tB (w.take n)) crB2) crB = l0 :: ls := hM
        have h2 := sufB_size (tB (w.take n)) crB2
        rw [tB_size, List.length_take] at h2
        rw [e, List.length_cons] at h1
        omega
      rw [hh] at h
      unfold hdL at h
      simp only at h
      cases hline : lnB l0 with
      | none => rw [hline] at h; cases h
      | some p =>
        obtain ⟨m', t'⟩ := p
        rw [hline] at h
        simp only at h
        cases hd : hdrsB [] ls with
        | none => rw [hd] at h; cases h
        | some L' =>
          rw [hd] at h
          simp only at h
          cases hL : lenB L' with
          | none => rw [hL] at h; cases h
          | some sz =>
            rw [hL] at h
            simp only at h
            by_cases hb : 65536 < sz
            · rw [if_pos hb] at h; cases h
            · rw [if_neg hb] at h
              simp only at h
              split at h
              · cases h
              · cases h
                have := hdrsB_len hd
                rw [List.length_nil] at this
                omega
theorem dr_hds : ∀ (n : Nat) (w : List UInt8), w.length ≤ n → ∀ x ∈ (dr hdB w).1, x.1.2.2.length ≤ 4000000
  | n, w, hw, x, hx => by
    cases hn : nextL hdB w with
    | no s =>
      rw [dr_no hdB hn] at hx
      cases hx
    | yes r B k =>
      obtain ⟨m, t, L⟩ := r
      obtain ⟨_, hk2, hkl⟩ := next_yes hdB [] hn
      rw [dr_yes hdB hn] at hx
      rcases List.mem_cons.1 hx with rfl | hx
      · exact next_hds hn
      · match n, hw with
        | 0, hw => omega
        | n + 1, hw => exact dr_hds n (w.drop k) (by rw [List.length_drop]; omega) x hx
theorem cSmR_ok {F : HP} {R1 R2 : List Rqr} {M : List Rqm} {r1 r2 : Rqr} {i : Nat} {x : Rqm} (hx : M[i]? = some x) (h1 : R1[i]? = some r1) (h2 : R2[i]? = some r2) (hL : x.1.2.2.length ≤ 4000000) : C1OK Tryz.prog F fSm (cSmR R1 R2 M r1 r2) := by
  intro st W0 N h0 w A vargs v h' n n' lg lg' c q hp he hcc r ha hf
  unfold cSmR at hp
  split at hp
  · rename_i a b
    cases hp
    obtain ⟨o, ho, e1⟩ := run_read he
    obtain ⟨o2, ho2, e2⟩ := run_read e1
    obtain ⟨c1, e3, rfl⟩ := run_need e2
    obtain ⟨⟨⟨rfl, rfl⟩, rfl, rfl⟩, hc1⟩ := (Cnd.and_iff _ _).1 hcc
    obtain ⟨rfl, rfl, rfl⟩ := inv_ret e3
    obtain ⟨D1, hO1⟩ := r.obj ho
    obtain ⟨D2, hO2⟩ := r.obj ho2
    have p1 : PQ R1 M (memOn D1 w) := hO1.1
    have p2 : PQ R2 M (memOn D2 w) := hO2.1
    obtain ⟨s1, g1, q1⟩ := p1.2 i x hx
    obtain ⟨s2, g2, q2⟩ := p2.2 i x hx
    obtain rfl := Option.some.inj (h1.symm.trans g1)
    obtain rfl := Option.some.inj (h2.symm.trans g2)
    have hva : vargs = [Value.agg (encQ r1).toArray, Value.agg (encQ r2).toArray].toArray := by
      have := VRs.of_vmap (l := [Value.agg (encQ r1).toArray, Value.agg (encQ r2).toArray]) ha
      rw [← this]
    subst hva
    refine (tri_calls (W := w) (args := [Value.agg (encQ r1).toArray, Value.agg (encQ r2).toArray]) (y := .bool true) (Same_tri (q1.mono fun a v h => (memOn_some h).2) (q2.mono fun a v h => (memOn_some h).2) hL) (fun _ _ h => h)).mono ?_
    rintro e w' ⟨rfl, hb⟩
    exact ⟨_, N, rfl, r.below hb, VR_v.2 rfl, fun _ _ => rfl⟩
  · cases hp
    cases he
theorem rQ_at (R : List Rqr) (i : Nat) (r : Rqr) (h : R[i]? = some r) : List.take 4 (List.drop (0 + i * 4) (rowV encQ R)) = vmap (encQ r) := by
  have hi := (List.getElem?_eq_some_iff.1 h).1
  have := rowO_at encQ_len [] R r i hi
  have e : R.getD i r = r := by rw [List.getD_eq_getElem?_getD, h]; rfl
  rw [e] at this
  simpa using this
theorem pc_loop {W : World} {R1 R2 : List Rqr} {M : List Rqm} (h1 : R1.length = M.length) (h2 : R2.length = M.length) (hM : M.length ≤ 4000000) (hh : ∀ x ∈ M, x.1.2.2.length ≤ 4000000) :
    LTri Tryz.prog W (loopN fPcs 8) (tms 0 61 (aPc 1002 0 M.length 0)) (oPc R1 R2 M) (.exit 0) (tms 0 61 []) [] := by
  refine ltri_run (W := W) (g := fPcs) (b := loopN fPcs 8) (σ := {i : Nat // i ≤ M.length}) 61 (fun i => aPc 1002 0 M.length i.1) (fun _ => oPc R1 R2 M) (.exit 0) [] [] (fun i => M.length - i.1) kPc iPc (by intro h; cases h) (fun _ => rfl) rfl ?_ ⟨0, Nat.zero_le _⟩
  rintro ⟨i, hi⟩
  simp only
  by_cases hl : i < M.length
  · have hw := wrap_succ i (by omega)
    have e1 := ltTN hl
    have g3 : i.blt M.length = true := by rw [Nat.blt_eq]; exact hl
    have a1 : R1[i]? = some R1[i] := List.getElem?_eq_getElem (by omega)
    have a2 : R2[i]? = some R2[i] := List.getElem?_eq_getElem (by omega)
    have a3 : M[i]? = some M[i] := List.getElem?_eq_getElem hl
    have a4 : M[i].1.2.2.length ≤ 4000000 := hh _ (List.getElem_mem hl)
    generalize R1[i] = r1 at *
    generalize R2[i] = r2 at *
    have g1 := rQ_at R1 i r1 a1
    have g2 := rQ_at R2 i r2 a2
    refine ⟨[(fSm, cSmR R1 R2 M r1 r2)], hintL [(fPcs, 8, 0, hv (.lit true)), (fPcs, 10, 3, hv (rqQ r1)), (fPcs, 10, 7, hv (rqQ r2)), (fPcs, 10, 9, hv (.lit false)), (fPcs, 12, 0, hv (iv (Int.ofNat (i + 1))))], [], fun F hF => one_c (cSmR_ok a3 a1 a2 a4), fun _ _ => noL, fun F => ?_⟩
    have w1 : Wk (AV.agg (vmap (encQ r1))) (rqQ r1) := wk_aggv _
    have w2 : Wk (AV.agg (vmap (encQ r2))) (rqQ r2) := wk_aggv _
    refine cast (congrArg (VAll _) (oPcR_eq W R1 R2 M r1 r2 M.length i F).symm) ⟨⟨?_, rfl, .inl ⟨rfl, ⟨i + 1, hl⟩, sub_down hl, [(1000, 1000), (1002, 1002), (1003, 1003)], by kernel_rfl, by kernel_rfl, ⟨Wk.refl _, Wk.refl _, Wk.refl _, Wk.refl _, trivial⟩, ⟨_, rfl, row_ow0⟩, ⟨_, rfl, OW.refl _⟩, ⟨_, rfl, row_ow0⟩, ⟨_, rfl, OW.refl _⟩, trivial⟩⟩⟩
    simp only [g1, g2]
    simp only [Cnd.holds, g3, Nat.blt_eq, true_and, and_true]
    and_intros
    all_goals first
      | (with_reducible exact wk_int hw)
      | exact wk_litE e1
      | exact w1
      | exact w2
      | (with_reducible exact trivial)
      | (with_reducible exact rfl)
      | (with_reducible exact Wk.refl _)
      | (with_reducible exact VW.refl _)
      | (with_reducible exact OW.refl _)
      | (with_reducible exact wk_lit _)
      | (with_reducible assumption)
      | exact rfl
      | exact Wk.refl _
      | exact VW.refl _
      | exact OW.refl _
      | ((repeat (first | exact VW.nil | refine VW.cons (Wk.refl _) ?_ | refine VW.cons (Wk.any _) ?_ | refine VW.cons (wk_cap (Nat.le_refl _)) ?_)); done)
  · have hie : i = M.length := by omega
    subst hie
    refine ⟨[], hintL [(fPcs, 8, 0, hv (.lit false))], [], fun _ _ => noC, fun _ _ => noL, fun F => ?_⟩
    refine cast (congrArg (VAll _) (oPcE_eq W R1 R2 M M.length F).symm) ⟨⟨?_, rfl, .inr ⟨rfl, [], by kernel_rfl, by kernel_rfl, trivial, trivial⟩⟩⟩
    simp only [Cnd.holds, rens_rowV, Nat.blt_eq, true_and, and_true]
    and_intros
    all_goals first
      | exact wk_litE (ltFN (Nat.le_refl _))
      | (with_reducible exact trivial)
      | (with_reducible exact rfl)
      | (with_reducible exact Wk.refl _)
      | (with_reducible exact VW.refl _)
      | (with_reducible exact OW.refl _)
      | (with_reducible exact wk_lit _)
      | (with_reducible assumption)
      | exact rfl
      | exact Wk.refl _
      | exact VW.refl _
      | exact OW.refl _
      | ((repeat (first | exact VW.nil | refine VW.cons (Wk.refl _) ?_ | refine VW.cons (Wk.any _) ?_ | refine VW.cons (wk_cap (Nat.le_refl _)) ?_)); done)
end Go.Proofs.YtpijbbobejeemaaGreatDoor.Htp

/- Http: HttpPieces: the law. -/
set_option linter.unusedVariables false
set_option linter.unusedSimpArgs false
set_option maxRecDepth 100000
namespace Go.Proofs.YtpijbbobejeemaaGreatDoor.Htp
open Go Go.RowKit Go.Proofs.YtpijbbobejeemaaGreatDoor.Eng Go.Proofs.YtpijbbobejeemaaGreatDoor.Kit Go.Proofs.YtpijbbobejeemaaGreatDoor.Tree
theorem any_cl (K : Nat → Bool) : AV.cls K (tms 0 61 []) := ⟨trivial, trivial, trivial, trivial, trivial, trivial, trivial, trivial, trivial, trivial, trivial, trivial, trivial, trivial, trivial, trivial, trivial, trivial, trivial, trivial, trivial, trivial, trivial, trivial, trivial, trivial, trivial, trivial, trivial, trivial, trivial, trivial, trivial, trivial, trivial, trivial, trivial, trivial, trivial, trivial, trivial, trivial, trivial, trivial, trivial, trivial, trivial, trivial, trivial, trivial, trivial, trivial, trivial, trivial, trivial, trivial, trivial, trivial, trivial, trivial, trivial, trivial⟩
theorem st_free {W0 w : World} {F : HP} {N N1 : Names} {ys : List Value} (h : St W0 F N1 [] (tms 0 61 []) ys w) : St W0 F N [] (tms 0 61 []) ys w := by
  obtain ⟨N2, g1, g2, r, hvs⟩ := h
  obtain ⟨D0, D, h1, h2, h3⟩ := r.sat
  have hf : ∀ n o, ¬ (heapOf []).find n = some o := fun n o hn => by
    rw [find_heapOf (by rfl)] at hn
    cases hn
  refine ⟨fun i => if i < 1000 then N i else none, fun i hi => if_pos hi, fun i hi _ => if_neg (by omega), ⟨r.os, r.tape, r.output, D0, D, h1, fun n o hn => absurd hn (hf n o), fun n m o o' hn => absurd hn (hf n o)⟩, hvs.congr (K := fun _ => false) (fun n hn => by cases hn) (any_cl _)⟩
def s1N (i : Nat) : Nat := match Nat.beq i 1002 with
  | true => 0
  | false => match Nat.beq i 1003 with
    | true => 1000
    | false => match Nat.beq i 1000 with
      | true => 1004
      | false => i
def s2N (i : Nat) : Nat := match Nat.beq i 0 with
  | true => 1
  | false => i
theorem beq_no {i k : Nat} (h : i ≠ k) : Nat.beq i k = false := by
  cases hb : Nat.beq i k with
  | true => exact absurd (Nat.eq_of_beq_eq_true hb) h
  | false => rfl
theorem goes_aside {M : List Rqm} {R : List Rqr} {k : Nat} : Goes (tms 0 61 (aPc 0 1 k 0)) (outL M R ++ [(1, outO M)]) (tms 0 61 (aPc 1002 1 k 0)) [(1, outO M), (1002, .cells (rowV encQ R) tRqs), (1003, .any (frz (PQ R M)))] := by
  refine Goes.ren s1N (fun i hi => ?_) (by rfl) (by rfl) (fun i hi hg => ?_) (by rfl) (fun x hx => ?_) (by rfl)
  · unfold s1N
    rw [beq_no (show i ≠ 1002 by omega), beq_no (show i ≠ 1003 by omega), beq_no (show i ≠ 1000 by omega)]
  · have h1 : i ≠ 1002 := fun e => by subst e; cases hg
    have h2 : i ≠ 1003 := fun e => by subst e; cases hg
    have none' : ∀ j, j ≠ 0 → j ≠ 1000 → j ≠ 1 → getO (outL M R ++ [(1, outO M)]) j = none := fun j a0 a1 a2 => by
      show getO [(0, AO.cells (rowV encQ R) tRqs), (1000, AO.any (frz (PQ R M))), (1, outO M)] j = none
      simp only [getO, a0, a1, a2, if_false]
    unfold s1N
    rw [beq_no h1, beq_no h2]
    by_cases h3 : i = 1000
    · subst h3
      exact ⟨by decide, none' 1004 (by decide) (by decide) (by decide)⟩
    · rw [beq_no h3]
      exact ⟨hi, none' i (by omega) h3 (by omega)⟩
  · rcases List.mem_cons.1 hx with rfl | hx
    · exact ⟨_, rfl, OW.refl _⟩
    rcases List.mem_cons.1 hx with rfl | hx
    · exact ⟨_, rfl, row_ow0⟩
    rcases List.mem_cons.1 hx with rfl | hx
    · exact ⟨_, rfl, OW.refl _⟩
    · cases hx
theorem pc_open {W : World} {M : List Rqm} (hM : M.length ≤ 4000000) (hh : ∀ x ∈ M, x.1.2.2.length ≤ 4000000) : LTri Tryz.prog W (loopN fPcs 8) (tms 0 61 (aPc 0 1 M.length 0)) [(0, outO M), (1, outO M)] (.exit 0) (tms 0 61 []) [] := by
  intro W0 F N w a Q hF hNB r ha hK
  obtain ⟨R1, hR1, N1, q1, q2, q3, q4⟩ := St.open (L := outL M) (H0 := [(1, outO M)]) (outL_own M _ ⟨rfl, rfl, rfl⟩) (outL_cl M) (fun R => ⟨_, rfl⟩) hNB r ha
  obtain ⟨N2, p1, p2, p3, p4⟩ := goes_aside W0 F N _ w ⟨N1, q1, q2, q3, q4⟩
  have r2 : Rep W0 (fun i => N2 (s2N i)) F (heapOf [(0, outO M), (1002, .cells (rowV encQ R1) tRqs), (1003, .any (frz (PQ R1 M)))]) w := by
    refine p3.pull (σ := s2N) (by rfl) (by rfl) fun x hx => ?_
    rcases List.mem_cons.1 hx with rfl | hx
    · exact ⟨_, (find_heapOf (by rfl) _).trans rfl, OW.refl _⟩
    rcases List.mem_cons.1 hx with rfl | hx
    · exact ⟨_, (find_heapOf (by rfl) _).trans rfl, row_ow0⟩
    rcases List.mem_cons.1 hx with rfl | hx
    · exact ⟨_, (find_heapOf (by rfl) _).trans rfl, OW.refl _⟩
    · cases hx
  have nb2 : NB (fun i => N2 (s2N i)) [(0, outO M), (1002, .cells (rowV encQ R1) tRqs), (1003, .any (frz (PQ R1 M)))] := fun i hi hg => by
    have h1 : i ≠ 1002 := fun e => by subst e; cases hg
    have h2 : i ≠ 1003 := fun e => by subst e; cases hg
    have e : s2N i = i := by unfold s2N; rw [beq_no (show i ≠ 0 by omega)]
    show N2 (s2N i) = none
    rw [e]
    refine p2 i hi ?_
    simp only [getO, h1, h2, show i ≠ 1 by omega, if_false]
  have hv2 : VRs (fun i => N2 (s2N i)) (tms 0 61 (aPc 1002 0 M.length 0)) a.tmps.toList := by
    refine VRs_ren.1 ?_
    have e : AV.rens s2N (tms 0 61 (aPc 1002 0 M.length 0)) = tms 0 61 (aPc 1002 1 M.length 0) := by rfl
    rw [e]; exact p4
  obtain ⟨R2, hR2, N3, t1, t2, t3, t4⟩ := St.open (L := outL M) (m := .nothing) (H0 := [(1002, .cells (rowV encQ R1) tRqs), (1003, .any (frz (PQ R1 M)))]) (outL_own M _ ⟨rfl, rfl, rfl⟩) (outL_cl M) (fun R => ⟨_, rfl⟩) nb2 r2 hv2
  exact pc_loop hR1 hR2 hM hh W0 F N3 w a Q hF t2 t3 t4 fun a' w' hst hd => hK a' w' (st_free hst) hd
theorem gPc_ro : ∀ args, RO (gPc args) := by
  intro args
  unfold gPc
  split
  · exact RO.ret _
  · exact RO.fail _
theorem gTd_ro : ∀ args, RO (gTd args) := by
  intro args
  unfold gTd
  split
  · exact RO.ret _
  · exact RO.fail _
section
variable {W : World} (hW : LW W) {b c : Value} {bs : List UInt8} {zs : List Int} (hB : BArg W b bs) (hC : CArg W c zs) (hbl : bs.length ≤ 1048576) (hcl : zs.length ≤ 1048576)
include hW hB hC hbl hcl
theorem Pieces_tri : Tri Tryz.prog W fPcs (vmap [b, c]) [] (.v (.bool true)) [] := by
  have hlen := dr_len hdB _ bs (Nat.le_refl _)
  have hM : (dr hdB bs).1.length ≤ 4000000 := by omega
  have hh := dr_hds bs.length bs (Nat.le_refl _)
  refine tri_run (con := [(fSpeaks, cSpk), (fTold, cTold b c (dr hdB bs).1 (dr hdB bs).1.length (dr hdB bs).2.1)]) (hints := hintL [(fPcs, 1, 1, hv (.lit false)), (fPcs, 5, 1, hv (.lit false)), (fPcs, 5, 4, hv (.lit false)), (fPcs, 5, 11, hv (.lit false)), (fPcs, 5, 16, hv (.lit false)), (fPcs, 7, 1, hv (iv (Int.ofNat (dr hdB bs).1.length)))]) (lc := [(fPcs, 8, loopN fPcs 8, lPc (dr hdB bs).1 (dr hdB bs).1.length)]) [] rfl (fun F hF => con_cons (cSpk_ok hW hF) (one_c (mkC_ok hF (fun _ => .tuple [sQ 1000 (dr hdB bs).1.length, iv (Int.ofNat (dr hdB bs).2.1), bv true]) gTd_ro (fun _ => rfl) (fun x hx => ?_) fun _ => ⟨rfl, rfl, ⟨trivial, trivial, trivial⟩, all_nil, ⟨⟨rfl, trivial, trivial, trivial⟩, trivial⟩, all_cons (outO_cl _ _) all_nil⟩))) (fun F hF => one_l (mkL_ok hF gPc_ro (fun _ _ => by
    simp only [RT.pick]
    exact pc_open hM hh) fun _ => by
    simp only [RT.pick]
    exact closedT rfl rfl (all_cons rfl (all_cons rfl (all_cons trivial (all_cons trivial all_nil)))) (all_cons (outO_cl _ _) (all_cons (outO_cl _ _) all_nil)) all_nil all_nil)) fun F => ?_
  · rcases hx with rfl | rfl
    · exact Told_tri hW hB (.inl ⟨0, rfl, rfl⟩) hbl (zs := []) (by decide)
    · exact Told_tri hW hB hC hbl hcl
  refine cast (congrArg (VAll _) (oPcs_eq W b c (dr hdB bs).1 (dr hdB bs).1.length (dr hdB bs).2.1 F).symm) ⟨⟨?_, (fit_mk (vs' := [bv true]) (H' := []) [] rfl rfl (VW.refl _) trivial).fits rfl⟩⟩
  have e1 : (Int.ofNat (dr hdB bs).2.1 != Int.ofNat (dr hdB bs).2.1) = false := by simp
  simp only [Cnd.holds, rens_rowV, Nat.blt_eq, true_and, and_true]
  and_intros
  all_goals first
    | exact .inl rfl
    | exact .inr rfl
    | exact .inl trivial
    | exact .inr trivial
    | exact wk_litE (cast_neq _)
    | exact wk_litE e1
    | (with_reducible exact trivial)
    | (with_reducible exact rfl)
    | (with_reducible exact Wk.refl _)
    | (with_reducible exact VW.refl _)
    | (with_reducible exact OW.refl _)
    | (with_reducible exact wk_lit _)
    | (with_reducible assumption)
    | exact rfl
    | exact Wk.refl _
    | exact VW.refl _
    | exact OW.refl _
    | ((repeat (first | exact VW.nil | refine VW.cons (Wk.refl _) ?_ | refine VW.cons (Wk.any _) ?_ | refine VW.cons (wk_cap (Nat.le_refl _)) ?_)); done)
end
end Go.Proofs.YtpijbbobejeemaaGreatDoor.Htp

/- Rows of records, as cells. No program. -/
set_option linter.unusedVariables false
set_option linter.unusedSimpArgs false
namespace Go.Proofs.YtpijbbobejeemaaGreatDoor
open Go

end Go.Proofs.YtpijbbobejeemaaGreatDoor

/- A slice of structs that comes in, whatever its struct: its cells, read as a list of plain records. -/
set_option linter.unusedVariables false
set_option linter.unusedSimpArgs false
namespace Go.Proofs.YtpijbbobejeemaaGreatDoor
open Go.ChangeShapes Go.WideShapes Go.RowKit Go.Deep
section
variable {H : Type} {enc : TypeId × Value → H} {P : Program} {w : World} {base : Nat} {spare : Nat → Bool} {held : Bool}
def Light (P : Program) (t : TypeId) (d : DataW H) : Prop := ∀ n ∈ d.weights P t, n ≤ reachBytes
theorem Light.len {t e : TypeId} {elems sp : List (DataW H)} (hu : P.underlying t = some (.slice e)) (h : Light P t (.slice elems sp)) : (elems.length + sp.length) * P.bytesOf e ≤ reachBytes :=
  h _ (by simp only [DataW.weights, hu, List.mem_cons, true_or])
theorem Light.field {t : TypeId} {fs : Array Field} {parts : List (DataW H)} (hu : P.underlying t = some (.struct fs)) (h : Light P t (.agg parts)) {i : Nat} {f : Field} {d : DataW H} (hf : fs[i]? = some f) (hp : parts[i]? = some d) : Light P f.type d := fun n hn => by
  refine h n ?_
  simp only [DataW.weights, hu]
  exact DataW.weights_mem_each (j := i) (by simp [hf]) hp n hn
end
end Go.Proofs.YtpijbbobejeemaaGreatDoor

/- What the bound of the second form gives. -/
set_option linter.unusedVariables false
set_option linter.unusedSimpArgs false
namespace Go.Proofs.YtpijbbobejeemaaGreatDoor.Upto
open Go.ChangeShapes Go.WideShapes Go.RowKit Go.Deep
theorem one_le {H : Type} (d : DataW H) : 1 ≤ Rows.uptoBulk d := by
  cases d with
  | lit l => cases l <;> simp [Rows.uptoBulk]
  | nil => simp [Rows.uptoBulk]
  | ptr d => simp [Rows.uptoBulk]
  | slice elems spare => simp [Rows.uptoBulk]
  | agg parts => simp [Rows.uptoBulk]
  | iface t d => simp [Rows.uptoBulk]
  | map entries => simp [Rows.uptoBulk]
  | held h => simp [Rows.uptoBulk]
theorem length_le {H : Type} (l : List (DataW H)) : l.length ≤ Rows.uptoBulkAll l := by
  induction l with
  | nil => simp [Rows.uptoBulkAll]
  | cons x r ih => have := one_le x; simp only [Rows.uptoBulkAll, List.length_cons]; omega
theorem slice_elems {H : Type} (elems spare : List (DataW H)) : Rows.uptoBulkAll elems + 1 ≤ Rows.uptoBulk (.slice elems spare) := by
  simp only [Rows.uptoBulk]
  omega
theorem bound {H : Type} {l : List (DataW H)} (hk : Rows.uptoSmall H l = true) : Rows.uptoBulkAll l ≤ 1048576 := of_decide_eq_true hk
end Go.Proofs.YtpijbbobejeemaaGreatDoor.Upto

/- A row's witness where the variables are told one beside the other. No program. -/
set_option linter.unusedVariables false
set_option linter.unusedSimpArgs false
namespace Go.Proofs.YtpijbbobejeemaaGreatDoor.Wit
open Go
theorem row_zip {H : Type} {enc : TypeId × Value → H} {C : Checked} {os : Os} {f : FuncId} {fn : Func} {s : OpenSpec} {conds : List PathCond} {apart : Bool} {laid : List (String × DataW Unit)} (w0 : World) (args : Array Value) (hos : w0.os = os)
    (hv : (w0.forCall (fun _ _ => 0) ⟨#[], args, []⟩).variablesZipB C.prog = true)
    (hr : ((w0.forCall (fun _ _ => 0) ⟨#[], args, []⟩).heap.toList.drop C.prog.globals.size).take ((begin C.prog (fun _ _ => 0) default).world.heap.size - C.prog.globals.size) =
      (begin C.prog (fun _ _ => 0) default).world.heap.toList.drop C.prog.globals.size)
    (hok : Input.okWideB C.prog (w0.forCall (fun _ _ => 0) ⟨#[], args, []⟩) f ⟨#[], args, []⟩ = true)
    (hrow : s.preRow enc C.prog fn conds apart laid (w0.forCall (fun _ _ => 0) ⟨#[], args, []⟩).memory args) :
    ∃ (w : World) (tape : Tape) (i : Input), w.os = os ∧ (w.forCall tape i).Shaped C.prog ∧ i.vars = [] ∧ Input.okWide C.prog (w.forCall tape i) .any w.heap.size f i ∧
      s.preRow enc C.prog fn conds apart laid (w.forCall tape i).memory i.args ∧ ({} : Assume).holds C.prog (lone (Frame.enter C.prog f i.args .normal) [] (w.forCall tape i)) :=
  ⟨w0, fun _ _ => 0, ⟨#[], args, []⟩, hos, World.shaped_of_ZipB hv hr, (Input.okWide_of_okWideB (base := 0) hok).1, (Input.okWide_of_okWideB hok).2, hrow, by
    simp [Assume.holds]⟩
end Go.Proofs.YtpijbbobejeemaaGreatDoor.Wit

/- Http: what a slice of bytes and a slice of numbers that come in are. -/
set_option linter.unusedVariables false
set_option linter.unusedSimpArgs false
set_option maxRecDepth 100000
namespace Go.Proofs.YtpijbbobejeemaaGreatDoor
open Go.ChangeShapes Go.WideShapes Go.RowKit Go.Deep
namespace Htp
section
variable {H : Type} {enc : TypeId × Value → H} {w : World} {base : Nat} {spare : Nat → Bool} {held : Bool}
theorem lit8_in {n : Int} (h : (Lit.int .u8 n).wf = true) : 0 ≤ n ∧ n ≤ 255 := by
  simp only [Lit.wf, Bool.and_eq_true, decide_eq_true_eq] at h
  have h1 : IntKind.u8.min = 0 := by decide
  have h2 : IntKind.u8.max = 255 := by decide
  rw [h1, h2] at h
  exact h
theorem open_bytes {fuel : Nat} {A : Option Addr} {len cap : Nat} {x : DataW H × List MemPlace} (h : DataW.trod enc Tryz.prog w base spare held fuel 26 [.slice A len cap] = some x) :
    ∃ bs : List UInt8, BArg w (.slice A len cap) bs ∧ bs.length + 1 ≤ Rows.uptoBulk x.1 := by
  rcases open_slice1 Tryz.underlying26 (by kernel_rfl) h with ⟨hcs, _⟩ | ⟨a, len', cap', m, n, V, D, Pl, hcs, hb, hl, hm, hmm, hx, hi⟩
  · simp only [List.cons.injEq, Value.slice.injEq, and_true] at hcs
    obtain ⟨rfl, rfl, rfl⟩ := hcs
    exact ⟨[], .inl ⟨0, rfl, rfl⟩, Upto.one_le x.1⟩
  · simp only [List.cons.injEq, Value.slice.injEq, and_true] at hcs
    obtain ⟨rfl, rfl, rfl⟩ := hcs
    have hlm : len ≤ m := by rw [hmm]; split <;> omega
    have hall : ∀ i : Fin len, ∃ b : UInt8, w.cell? (a.add i.1) = some (.int .u8 b.toNat) := fun i => by
      obtain ⟨hc, ht⟩ := hi i.1 (by omega)
      obtain ⟨z, e, _, hz⟩ := DataW.trod_int Tryz.underlying5 ht
      obtain ⟨z0, z1⟩ := lit8_in hz
      refine ⟨UInt8.ofNat z.toNat, ?_⟩
      rw [hc, (List.cons.inj e).1, UInt8.toNat_ofNat']
      congr 2
      omega
    obtain ⟨g, hg⟩ := Classical.axiomOfChoice hall
    refine ⟨List.ofFn g, .inr ⟨a, cap, by simp, by simp; exact hl, fun j b hj => ?_⟩, ?_⟩
    · rw [List.getElem?_ofFn] at hj
      split at hj
      · rename_i hlt
        cases hj
        exact hg ⟨j, hlt⟩
      · cases hj
    · rw [hx]
      refine Nat.le_trans (Nat.succ_le_succ ?_) (Upto.slice_elems _ _)
      refine Nat.le_trans ?_ (Upto.length_le _)
      simp
theorem open_ints {fuel : Nat} {A : Option Addr} {len cap : Nat} {x : DataW H × List MemPlace} (h : DataW.trod enc Tryz.prog w base spare held fuel 42 [.slice A len cap] = some x) :
    ∃ zs : List Int, CArg w (.slice A len cap) zs ∧ zs.length + 1 ≤ Rows.uptoBulk x.1 := by
  rcases open_slice1 Tryz.underlying42 (by kernel_rfl) h with ⟨hcs, _⟩ | ⟨a, len', cap', m, n, V, D, Pl, hcs, hb, hl, hm, hmm, hx, hi⟩
  · simp only [List.cons.injEq, Value.slice.injEq, and_true] at hcs
    obtain ⟨rfl, rfl, rfl⟩ := hcs
    exact ⟨[], .inl ⟨0, rfl, rfl⟩, Upto.one_le x.1⟩
  · simp only [List.cons.injEq, Value.slice.injEq, and_true] at hcs
    obtain ⟨rfl, rfl, rfl⟩ := hcs
    have hlm : len ≤ m := by rw [hmm]; split <;> omega
    have hall : ∀ i : Fin len, ∃ z : Int, w.cell? (a.add i.1) = some (.int .i64 z) := fun i => by
      obtain ⟨hc, ht⟩ := hi i.1 (by omega)
      obtain ⟨z, e, _, hz⟩ := DataW.trod_int Tryz.underlying3 ht
      exact ⟨z, by rw [hc, (List.cons.inj e).1]⟩
    obtain ⟨g, hg⟩ := Classical.axiomOfChoice hall
    refine ⟨List.ofFn g, .inr ⟨a, cap, by simp, fun j b hj => ?_⟩, ?_⟩
    · rw [List.getElem?_ofFn] at hj
      split at hj
      · rename_i hlt
        cases hj
        exact hg ⟨j, hlt⟩
      · cases hj
    · rw [hx]
      refine Nat.le_trans (Nat.succ_le_succ ?_) (Upto.slice_elems _ _)
      refine Nat.le_trans ?_ (Upto.length_le _)
      simp
end
end Htp
end Go.Proofs.YtpijbbobejeemaaGreatDoor

