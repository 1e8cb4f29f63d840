/- Parts of the proof, merged. -/
import Derived.Test.YtojfbgmeaadanaaEngKit
import Derived.Test.YtojfbgmeaadanaaEngFam
/- Alarms: cells, states. -/
set_option linter.unusedVariables false
set_option linter.unusedSimpArgs false
set_option maxRecDepth 100000
namespace Go.Proofs.Ytojfbgmeaadanaa.Alm
open Go Go.RowKit Go.Proofs.Ytojfbgmeaadanaa.Eng Go.Proofs.Ytojfbgmeaadanaa.Kit
def pv (b : Nat) : List Value := [.pointer (some ⟨b, 0, none⟩)]
def ptrV (b : Nat) : AV := .v (.pointer (some ⟨b, 0, none⟩))
theorem pv_length (b : Nat) : (pv b).length = 1 := rfl
abbrev tAl : TypeId := 57
abbrev tPtr : TypeId := 2 * 55
abbrev tClk : TypeId := 2 * 54
/-- An alarm's cells: id, at, turn, place. -/
def alC (x : It) (i : Nat) : List Value := [.int .i64 x.c, .int .i64 x.a, .int .i64 x.b, .int .i64 (Int.ofNat i)]
def fam : Nat → List It → List (Nat × List Value)
  | _, [] => []
  | i, x :: l => (x.k, alC x i) :: fam (i + 1) l
def It.zero : It := ⟨0, 0, 0, 0⟩
def at' (s : Ps) (i : Nat) : It := s.xs.getD i It.zero
def ahead (x y : It) : Bool := decide (x.a < y.a) || (x.a == y.a && decide (x.b < y.b))
noncomputable section
def rowO (R : List Nat) : AO := .cells (rowV pv R) tPtr
def blocks (s : Ps) : List Nat := s.xs.map (·.k) ++ s.g
def slR (r n c : Nat) : AV := .slice r 0 n 1 (.lo c)
def hdr (r m n c : Nat) (tn : Int) : AO := .cells [slR r n c, .map m, iv tn] tClk
def famO (l : List (Nat × List Value)) : AO := .any (famHP tAl l)
def mapO (s : Ps) : AO := .map (mE ptrV s.m) s.ck
def alO (x : It) (i : Nat) : AO := .cells (vmap (alC x i)) (2 * tAl)
def roomOf (s : Ps) : Nat := s.xs.length + s.g.length
/-- A clock that lies open: for a Clock's own methods; for the heap's functions. -/
def cL (s : Ps) : LH := [(0, hdr 1001 1003 s.xs.length (roomOf s) s.tn), (1001, rowO (blocks s)), (1002, famO (fam 0 s.xs)), (1003, mapO s)]
def hL (s : Ps) : LH := [(0, hdr 1 3 s.xs.length (roomOf s) s.tn), (1, rowO (blocks s)), (2, famO (fam 0 s.xs)), (3, mapO s)]
abbrev fLess : Nat := 41
abbrev fSwap : Nat := 42
abbrev fLen : Nat := 40
abbrev fPush : Nat := 44
abbrev fPop : Nat := 43
end
end Go.Proofs.Ytojfbgmeaadanaa.Alm

/- Alarms: the pile's methods: runs. -/
set_option linter.unusedVariables false
set_option linter.unusedSimpArgs false
set_option maxRecDepth 100000
namespace Go.Proofs.Ytojfbgmeaadanaa.Alm
open Go Go.RowKit Go.Proofs.Ytojfbgmeaadanaa.Eng Go.Proofs.Ytojfbgmeaadanaa.Kit
noncomputable section
/-- Two alarms lie open. -/
def two (R : List Nat) (fm : AO) (oX : AO) (bx : Nat) (oY : AO) (by_ : Nat) : LH := [(1, rowO R), (2, fm), (1004, oX), (1005, .same 1004 bx), (1006, oY), (1007, .same 1006 by_)]
def hLess : ClaimT := hintL [(fLess, 1, 3, hp 1005), (fLess, 1, 10, hp 1007), (fLess, 1, 19, hp 1005), (fLess, 1, 26, hp 1007), (fLess, 1, 35, hp 1005), (fLess, 1, 42, hp 1007)]
theorem oLess_eq (R : List Nat) (n c i j px py : Nat) (x y : It) (fm : AO) (F : HP) : wRun [] hLess [] default fLess [slR 1 n c, iv (Int.ofNat i), iv (Int.ofNat j)] (two R fm (alO x px) x.k (alO y py) y.k) [1, 2, 1004, 1005, 1006, 1007] F = VT.ite (decide (x.a < y.a)) (VT.leaf (AV.v (Value.bool true)) [some (AO.cells (rowV pv R) 110), some fm, some (AO.cells [AV.v (Value.int IntKind.i64 x.c), AV.v (Value.int IntKind.i64 x.a), AV.v (Value.int IntKind.i64 x.b), AV.v (Value.int IntKind.i64 (Int.ofNat px))] 114), some (AO.same 1004 x.k), some (AO.cells [AV.v (Value.int IntKind.i64 y.c), AV.v (Value.int IntKind.i64 y.a), AV.v (Value.int IntKind.i64 y.b), AV.v (Value.int IntKind.i64 (Int.ofNat py))] 114), some (AO.same 1006 y.k)] 1100 (((Cnd.p (i.blt n = true)).a Cnd.t).a (((Cnd.p ((0 + i * 1).blt (rowV pv R).length = true)).a ((Cnd.p (Wk ((rowV pv R).getD (0 + i * 1) (AV.v (Value.tuple (Array.mk [])))) (AV.v (Value.pointer (some (Addr.mk x.k 0 none)))))).a Cnd.t)).a (((Cnd.p (true = true)).a ((Cnd.p (AV.v (Value.int IntKind.i64 x.a) = AV.v (Value.int IntKind.i64 x.a))).a Cnd.t)).a (((Cnd.p (j.blt n = true)).a Cnd.t).a (((Cnd.p ((0 + j * 1).blt (rowV pv R).length = true)).a ((Cnd.p (Wk ((rowV pv R).getD (0 + j * 1) (AV.v (Value.tuple (Array.mk [])))) (AV.v (Value.pointer (some (Addr.mk y.k 0 none)))))).a Cnd.t)).a (((Cnd.p (true = true)).a ((Cnd.p (AV.v (Value.int IntKind.i64 y.a) = AV.v (Value.int IntKind.i64 y.a))).a Cnd.t)).a Cnd.t))))))) (VT.ite (x.a == y.a) (VT.leaf (AV.v (Value.bool (decide (x.b < y.b)))) [some (AO.cells (rowV pv R) 110), some fm, some (AO.cells [AV.v (Value.int IntKind.i64 x.c), AV.v (Value.int IntKind.i64 x.a), AV.v (Value.int IntKind.i64 x.b), AV.v (Value.int IntKind.i64 (Int.ofNat px))] 114), some (AO.same 1004 x.k), some (AO.cells [AV.v (Value.int IntKind.i64 y.c), AV.v (Value.int IntKind.i64 y.a), AV.v (Value.int IntKind.i64 y.b), AV.v (Value.int IntKind.i64 (Int.ofNat py))] 114), some (AO.same 1006 y.k)] 1100 (((Cnd.p (i.blt n = true)).a Cnd.t).a (((Cnd.p ((0 + i * 1).blt (rowV pv R).length = true)).a ((Cnd.p (Wk ((rowV pv R).getD (0 + i * 1) (AV.v (Value.tuple (Array.mk [])))) (AV.v (Value.pointer (some (Addr.mk x.k 0 none)))))).a Cnd.t)).a (((Cnd.p (true = true)).a ((Cnd.p (AV.v (Value.int IntKind.i64 x.a) = AV.v (Value.int IntKind.i64 x.a))).a Cnd.t)).a (((Cnd.p (j.blt n = true)).a Cnd.t).a (((Cnd.p ((0 + j * 1).blt (rowV pv R).length = true)).a ((Cnd.p (Wk ((rowV pv R).getD (0 + j * 1) (AV.v (Value.tuple (Array.mk [])))) (AV.v (Value.pointer (some (Addr.mk y.k 0 none)))))).a Cnd.t)).a (((Cnd.p (true = true)).a ((Cnd.p (AV.v (Value.int IntKind.i64 y.a) = AV.v (Value.int IntKind.i64 y.a))).a Cnd.t)).a (((Cnd.p (i.blt n = true)).a Cnd.t).a (((Cnd.p ((0 + i * 1).blt (rowV pv R).length = true)).a ((Cnd.p (Wk ((rowV pv R).getD (0 + i * 1) (AV.v (Value.tuple (Array.mk [])))) (AV.v (Value.pointer (some (Addr.mk x.k 0 none)))))).a Cnd.t)).a (((Cnd.p (true = true)).a ((Cnd.p (AV.v (Value.int IntKind.i64 x.a) = AV.v (Value.int IntKind.i64 x.a))).a Cnd.t)).a (((Cnd.p (j.blt n = true)).a Cnd.t).a (((Cnd.p ((0 + j * 1).blt (rowV pv R).length = true)).a ((Cnd.p (Wk ((rowV pv R).getD (0 + j * 1) (AV.v (Value.tuple (Array.mk [])))) (AV.v (Value.pointer (some (Addr.mk y.k 0 none)))))).a Cnd.t)).a (((Cnd.p (true = true)).a ((Cnd.p (AV.v (Value.int IntKind.i64 y.a) = AV.v (Value.int IntKind.i64 y.a))).a Cnd.t)).a (((Cnd.p (i.blt n = true)).a Cnd.t).a (((Cnd.p ((0 + i * 1).blt (rowV pv R).length = true)).a ((Cnd.p (Wk ((rowV pv R).getD (0 + i * 1) (AV.v (Value.tuple (Array.mk [])))) (AV.v (Value.pointer (some (Addr.mk x.k 0 none)))))).a Cnd.t)).a (((Cnd.p (true = true)).a ((Cnd.p (AV.v (Value.int IntKind.i64 x.b) = AV.v (Value.int IntKind.i64 x.b))).a Cnd.t)).a (((Cnd.p (j.blt n = true)).a Cnd.t).a (((Cnd.p ((0 + j * 1).blt (rowV pv R).length = true)).a ((Cnd.p (Wk ((rowV pv R).getD (0 + j * 1) (AV.v (Value.tuple (Array.mk [])))) (AV.v (Value.pointer (some (Addr.mk y.k 0 none)))))).a Cnd.t)).a (((Cnd.p (true = true)).a ((Cnd.p (AV.v (Value.int IntKind.i64 y.b) = AV.v (Value.int IntKind.i64 y.b))).a Cnd.t)).a Cnd.t))))))))))))))))))) (VT.leaf (AV.v (Value.bool false)) [some (AO.cells (rowV pv R) 110), some fm, some (AO.cells [AV.v (Value.int IntKind.i64 x.c), AV.v (Value.int IntKind.i64 x.a), AV.v (Value.int IntKind.i64 x.b), AV.v (Value.int IntKind.i64 (Int.ofNat px))] 114), some (AO.same 1004 x.k), some (AO.cells [AV.v (Value.int IntKind.i64 y.c), AV.v (Value.int IntKind.i64 y.a), AV.v (Value.int IntKind.i64 y.b), AV.v (Value.int IntKind.i64 (Int.ofNat py))] 114), some (AO.same 1006 y.k)] 1100 (((Cnd.p (i.blt n = true)).a Cnd.t).a (((Cnd.p ((0 + i * 1).blt (rowV pv R).length = true)).a ((Cnd.p (Wk ((rowV pv R).getD (0 + i * 1) (AV.v (Value.tuple (Array.mk [])))) (AV.v (Value.pointer (some (Addr.mk x.k 0 none)))))).a Cnd.t)).a (((Cnd.p (true = true)).a ((Cnd.p (AV.v (Value.int IntKind.i64 x.a) = AV.v (Value.int IntKind.i64 x.a))).a Cnd.t)).a (((Cnd.p (j.blt n = true)).a Cnd.t).a (((Cnd.p ((0 + j * 1).blt (rowV pv R).length = true)).a ((Cnd.p (Wk ((rowV pv R).getD (0 + j * 1) (AV.v (Value.tuple (Array.mk [])))) (AV.v (Value.pointer (some (Addr.mk y.k 0 none)))))).a Cnd.t)).a (((Cnd.p (true = true)).a ((Cnd.p (AV.v (Value.int IntKind.i64 y.a) = AV.v (Value.int IntKind.i64 y.a))).a Cnd.t)).a (((Cnd.p (i.blt n = true)).a Cnd.t).a (((Cnd.p ((0 + i * 1).blt (rowV pv R).length = true)).a ((Cnd.p (Wk ((rowV pv R).getD (0 + i * 1) (AV.v (Value.tuple (Array.mk [])))) (AV.v (Value.pointer (some (Addr.mk x.k 0 none)))))).a Cnd.t)).a (((Cnd.p (true = true)).a ((Cnd.p (AV.v (Value.int IntKind.i64 x.a) = AV.v (Value.int IntKind.i64 x.a))).a Cnd.t)).a (((Cnd.p (j.blt n = true)).a Cnd.t).a (((Cnd.p ((0 + j * 1).blt (rowV pv R).length = true)).a ((Cnd.p (Wk ((rowV pv R).getD (0 + j * 1) (AV.v (Value.tuple (Array.mk [])))) (AV.v (Value.pointer (some (Addr.mk y.k 0 none)))))).a Cnd.t)).a (((Cnd.p (true = true)).a ((Cnd.p (AV.v (Value.int IntKind.i64 y.a) = AV.v (Value.int IntKind.i64 y.a))).a Cnd.t)).a Cnd.t)))))))))))))) := by kernel_rfl
def hSwap (R1 R2 : List Nat) (x y : It) : ClaimT := hintL [(fSwap, 0, 7, hv (ptrV y.k)), (fSwap, 0, 11, hv (ptrV x.k)), (fSwap, 0, 13, ho 1 (rowO R1)), (fSwap, 0, 15, ho 1 (rowO R2)), (fSwap, 1, 3, hp 1007), (fSwap, 1, 7, hp 1005)]
theorem oSwap_eq (R R1 R2 : List Nat) (n c i j px py : Nat) (x y : It) (fm : AO) (F : HP) : wRun [] (hSwap R1 R2 x y) [] default fSwap [slR 1 n c, iv (Int.ofNat i), iv (Int.ofNat j)] (two R fm (alO x px) x.k (alO y py) y.k) [1, 2, 1004, 1005, 1006, 1007] F = VT.leaf (AV.tuple []) [some (AO.cells (rowV pv R2) 110), some fm, some (AO.cells [AV.v (Value.int IntKind.i64 x.c), AV.v (Value.int IntKind.i64 x.a), AV.v (Value.int IntKind.i64 x.b), AV.v (Value.int IntKind.i64 (Int.ofNat j))] 114), some (AO.same 1004 x.k), some (AO.cells [AV.v (Value.int IntKind.i64 y.c), AV.v (Value.int IntKind.i64 y.a), AV.v (Value.int IntKind.i64 y.b), AV.v (Value.int IntKind.i64 (Int.ofNat i))] 114), some (AO.same 1006 y.k)] 1100 (((Cnd.p (j.blt n = true)).a Cnd.t).a (((Cnd.p ((0 + j * 1).blt (rowV pv R).length = true)).a ((Cnd.p (Wk ((rowV pv R).getD (0 + j * 1) (AV.v (Value.tuple (Array.mk [])))) (AV.v (Value.pointer (some (Addr.mk y.k 0 none)))))).a Cnd.t)).a (((Cnd.p (i.blt n = true)).a Cnd.t).a (((Cnd.p ((0 + i * 1).blt (rowV pv R).length = true)).a ((Cnd.p (Wk ((rowV pv R).getD (0 + i * 1) (AV.v (Value.tuple (Array.mk [])))) (AV.v (Value.pointer (some (Addr.mk x.k 0 none)))))).a Cnd.t)).a (((Cnd.p (i.blt n = true)).a Cnd.t).a (((Cnd.p ((0 + i * 1 + 1).ble (rowV pv R).length = true)).a ((Cnd.p (OW (AO.cells (splice (rowV pv R) (0 + i * 1) [AV.v (Value.pointer (some (Addr.mk y.k 0 none)))]) 110) (AO.cells (rowV pv R1) 110))).a Cnd.t)).a (((Cnd.p (j.blt n = true)).a Cnd.t).a (((Cnd.p ((0 + j * 1 + 1).ble (rowV pv R1).length = true)).a ((Cnd.p (OW (AO.cells (splice (rowV pv R1) (0 + j * 1) [AV.v (Value.pointer (some (Addr.mk x.k 0 none)))]) 110) (AO.cells (rowV pv R2) 110))).a Cnd.t)).a (((Cnd.p (i.blt n = true)).a Cnd.t).a (((Cnd.p ((0 + i * 1).blt (rowV pv R2).length = true)).a ((Cnd.p (Wk ((rowV pv R2).getD (0 + i * 1) (AV.v (Value.tuple (Array.mk [])))) (AV.v (Value.pointer (some (Addr.mk y.k 0 none)))))).a Cnd.t)).a (((Cnd.p (j.blt n = true)).a Cnd.t).a (((Cnd.p ((0 + j * 1).blt (rowV pv R2).length = true)).a ((Cnd.p (Wk ((rowV pv R2).getD (0 + j * 1) (AV.v (Value.tuple (Array.mk [])))) (AV.v (Value.pointer (some (Addr.mk x.k 0 none)))))).a Cnd.t)).a (((Cnd.p (true = true)).a Cnd.t).a (((Cnd.p (true = true)).a Cnd.t).a Cnd.t)))))))))))))) := by kernel_rfl
theorem oLen_eq (n c : Nat) (F : HP) : wRun [] noHints [] default fLen [slR 1 n c] [] [] F = VT.leaf (AV.v (Value.int IntKind.i64 ↑n)) [] 1100 Cnd.t := by kernel_rfl
theorem oLen0_eq (F : HP) : wRun [] noHints [] default fLen [.v (.slice none 0 0)] [] [] F = VT.leaf (AV.v (Value.int IntKind.i64 (Int.ofNat 0))) [] 1100 Cnd.t := by kernel_rfl
def hPop (n b : Nat) : ClaimT := hintL [(fPop, 1, 3, hv (iv (Int.ofNat n))), (fPop, 1, 4, hv (iv (Int.ofNat (n - 1)))), (fPop, 2, 5, hv (ptrV b))]
theorem oPop_eq (R : List Nat) (n c b : Nat) (tn : Int) (mo : AO) (F : HP) : wRun [] (hPop n b) [] default fPop [.ptr 0 0] [(0, hdr 1 3 n c tn), (1, rowO R), (3, mo)] [0, 1, 3] F = VT.leaf (AV.iface 55 (AV.v (Value.pointer (some (Addr.mk b 0 none))))) [some (AO.cells [AV.slice 1 0 (n - 1 - 0) 1 (Cp.lo c), AV.map 3, AV.v (Value.int IntKind.i64 tn)] 108), some (AO.cells (rowV pv R) 110), some mo] 1100 (((Cnd.p (true = true)).a Cnd.t).a (((Cnd.p (Wk (AV.v (Value.int IntKind.i64 ↑n)) (AV.v (Value.int IntKind.i64 (Int.ofNat n))))).a Cnd.t).a (((Cnd.p (Wk (AV.v (Value.int IntKind.i64 (IntKind.i64.wrap (Int.ofNat n - Int.ofNat 1)))) (AV.v (Value.int IntKind.i64 (Int.ofNat (n - 1)))))).a Cnd.t).a (((Cnd.p (true = true)).a Cnd.t).a (((Cnd.p ((n - 1).blt n = true)).a Cnd.t).a (((Cnd.p ((0 + (n - 1) * 1).blt (rowV pv R).length = true)).a ((Cnd.p (Wk ((rowV pv R).getD (0 + (n - 1) * 1) (AV.v (Value.tuple (Array.mk [])))) (AV.v (Value.pointer (some (Addr.mk b 0 none)))))).a Cnd.t)).a (((Cnd.p (true = true)).a Cnd.t).a (((Cnd.p (true = true)).a ((Cnd.p ((n - 1).ble c = true)).a ((Cnd.p (c.ble c = true)).a Cnd.t))).a (((Cnd.p (true = true)).a Cnd.t).a Cnd.t))))))))) := by kernel_rfl
def hPush (n : Nat) (R1 : List Nat) : ClaimT := hintL [(fPush, 1, 4, hv (iv (Int.ofNat n))), (fPush, 2, 6, ho 1101 (.cells (rowV pv R1 ++ [.ptr 1004 0]) tPtr))]
theorem oPush_eq (R R1 : List Nat) (n c b : Nat) (x : It) (p : Nat) (tn : Int) (fm mo : AO) (F : HP) : wRun [] (hPush n R1) [] default fPush [.ptr 0 0, .iface 55 (.ptr 1004 0)] [(0, hdr 1001 1003 n c tn), (1001, rowO R), (1002, fm), (1003, mo), (1004, alO x p), (1005, .same 1004 b)] [0, 1001, 1002, 1003, 1004, 1005, 1100, 1101] F = VT.leaf (AV.tuple []) [some (AO.cells [AV.slice 1101 0 (n + 1) 1 (Cp.lo (n + 1)), AV.map 1003, AV.v (Value.int IntKind.i64 tn)] 108), none, some fm, some mo, some (AO.cells [AV.v (Value.int IntKind.i64 x.c), AV.v (Value.int IntKind.i64 x.a), AV.v (Value.int IntKind.i64 x.b), AV.v (Value.int IntKind.i64 (Int.ofNat n))] 114), some (AO.same 1004 b), some (AO.cells [AV.ptr 1004 0] 110), some (AO.cells (rowV pv R1 ++ [AV.ptr 1004 0]) 110)] 1102 (((Cnd.p (true = true)).a Cnd.t).a (((Cnd.p (Wk (AV.v (Value.int IntKind.i64 ↑n)) (AV.v (Value.int IntKind.i64 (Int.ofNat n))))).a Cnd.t).a (((Cnd.p (true = true)).a Cnd.t).a (((Cnd.p (true = true)).a Cnd.t).a (((Cnd.p (true = true)).a ((Cnd.p (true = true)).a ((Cnd.p (true = true)).a ((Cnd.p (true = true)).a ((Cnd.p ((0 + n * 1).ble (rowV pv R).length = true)).a ((Cnd.p (((n + 1) * 8).ble 140737488355328 = true)).a ((Cnd.p ((n + 1).ble 9223372036854775807 = true)).a ((Cnd.p ((List.take (n * 1) (List.drop 0 (rowV pv R))).length.beq (n * 1) = true)).a ((Cnd.p (OW (AO.cells (List.take (n * 1) (List.drop 0 (rowV pv R)) ++ [AV.ptr 1004 0]) 110) (AO.cells (rowV pv R1 ++ [AV.ptr 1004 0]) 110))).a Cnd.t))))))))).a (((Cnd.p (true = true)).a Cnd.t).a Cnd.t)))))) := by kernel_rfl
theorem oPush0_eq (b : Nat) (x : It) (p : Nat) (tn : Int) (fm mo : AO) (F : HP) : wRun [] (hintL [(fPush, 1, 4, hv (iv (Int.ofNat 0)))]) [] default fPush [.ptr 0 0, .iface 55 (.ptr 1004 0)] [(0, .cells [.v (.slice none 0 0), .map 1003, iv tn] tClk), (1002, fm), (1003, mo), (1004, alO x p), (1005, .same 1004 b)] [0, 1002, 1003, 1004, 1005, 1100, 1101] F = VT.leaf (AV.tuple []) [some (AO.cells [AV.slice 1101 0 1 1 (Cp.lo 1), AV.map 1003, AV.v (Value.int IntKind.i64 tn)] 108), some fm, some mo, some (AO.cells [AV.v (Value.int IntKind.i64 x.c), AV.v (Value.int IntKind.i64 x.a), AV.v (Value.int IntKind.i64 x.b), AV.v (Value.int IntKind.i64 (Int.ofNat 0))] 114), some (AO.same 1004 b), some (AO.cells [AV.ptr 1004 0] 110), some (AO.cells [AV.ptr 1004 0] 110)] 1102 (((Cnd.p (true = true)).a Cnd.t).a (((Cnd.p (Wk (AV.v (Value.int IntKind.i64 (Int.ofNat 0))) (AV.v (Value.int IntKind.i64 (Int.ofNat 0))))).a Cnd.t).a (((Cnd.p (true = true)).a Cnd.t).a (((Cnd.p (true = true)).a Cnd.t).a (((Cnd.p (true = true)).a ((Cnd.p (true = true)).a ((Cnd.p (true = true)).a ((Cnd.p (true = true)).a ((Cnd.p (true = true)).a ((Cnd.p (true = true)).a Cnd.t)))))).a (((Cnd.p (true = true)).a Cnd.t).a Cnd.t)))))) := by kernel_rfl
end
end Go.Proofs.Ytojfbgmeaadanaa.Alm

/- Alarms: the pile's methods: Less, Swap, Len. -/
set_option linter.unusedVariables false
set_option linter.unusedSimpArgs false
set_option maxRecDepth 100000
namespace Go.Proofs.Ytojfbgmeaadanaa.Alm
open Go Go.RowKit Go.Proofs.Ytojfbgmeaadanaa.Eng Go.Proofs.Ytojfbgmeaadanaa.Kit
/-! The many alarms. -/
theorem perm_set1 {α : Type} : ∀ (F : List α) (i : Nat) (a : α), i < F.length → (F.set i a).Perm (a :: F.eraseIdx i)
  | [], i, a, h => by simp at h
  | x :: F, 0, a, h => List.Perm.refl _
  | x :: F, i + 1, a, h => by
    have := perm_set1 F i a (by simpa using h)
    simp only [List.set_cons_succ, List.eraseIdx_cons_succ]
    exact (this.cons x).trans (List.Perm.swap a x _)
/-- Two of many. -/
theorem two_out {α : Type} : ∀ (F : List α) (i j : Nat), i < F.length → j < F.length → i ≠ j → ∃ rest, ∀ a b, ((F.set i a).set j b).Perm (a :: b :: rest)
  | [], i, j, h, _, _ => by simp at h
  | x :: F, 0, 0, _, _, h => absurd rfl h
  | x :: F, 0, j + 1, _, h, _ => ⟨F.eraseIdx j, fun a b => by
    simp only [List.set_cons_zero, List.set_cons_succ]
    exact (perm_set1 F j b (by simpa using h)).cons a⟩
  | x :: F, i + 1, 0, h, _, _ => ⟨F.eraseIdx i, fun a b => by
    simp only [List.set_cons_zero, List.set_cons_succ]
    exact ((perm_set1 F i a (by simpa using h)).cons b).trans (List.Perm.swap a b _)⟩
  | x :: F, i + 1, j + 1, h, h', hne => by
    obtain ⟨rest, hr⟩ := two_out F i j (by simpa using h) (by simpa using h') (fun e => hne (by rw [e]))
    refine ⟨x :: rest, fun a b => ?_⟩
    simp only [List.set_cons_succ]
    exact ((hr a b).cons x).trans (((List.Perm.swap a x (b :: rest))).trans ((List.Perm.swap b x rest).cons a))
theorem fam_len : ∀ (i : Nat) (l : List It), (fam i l).length = l.length
  | _, [] => rfl
  | i, x :: l => by rw [fam, List.length_cons, fam_len (i + 1) l, List.length_cons]
theorem fam_get : ∀ (k : Nat) (l : List It) (i : Nat), i < l.length → (fam k l)[i]? = some ((l.getD i It.zero).k, alC (l.getD i It.zero) (k + i))
  | k, [], i, h => by simp at h
  | k, x :: l, 0, h => by simp [fam]
  | k, x :: l, i + 1, h => by
    rw [fam, List.getElem?_cons_succ, fam_get (k + 1) l i (by simpa using h)]
    simp only [List.getD_cons_succ]
    congr 3
    omega
theorem fam_set : ∀ (k : Nat) (l : List It) (i : Nat) (y : It), fam k (l.set i y) = (fam k l).set i (y.k, alC y (k + i))
  | k, [], i, y => rfl
  | k, x :: l, 0, y => rfl
  | k, x :: l, i + 1, y => by
    rw [List.set_cons_succ, fam, fam_set (k + 1) l i y, fam, List.set_cons_succ]
    congr 4
    omega
theorem set_self {α : Type} : ∀ (F : List α) (i : Nat) (a : α), F[i]? = some a → F.set i a = F
  | [], i, a, h => rfl
  | x :: F, 0, a, h => by simp at h; rw [h]; rfl
  | x :: F, i + 1, a, h => by rw [List.set_cons_succ, set_self F i a (by simpa using h)]
theorem calm_row (R : List Nat) (σ : Nat → Nat) : (rowO R).ren σ = rowO R := row_renA σ R _
/-- A function that works on two alarms. -/
theorem tri_two {f : FuncId} {A : List AV} {v : AV} {R R' : List Nat} {Fm : List (Nat × List Value)} {i j ka kb : Nat} {ca ca' cb cb' : List Value} (hij : i ≠ j) (hi : Fm[i]? = some (ka, ca)) (hj : Fm[j]? = some (kb, cb)) (hv : ∀ K : Nat → Bool, (∀ n, Nat.blt n 1000 = true → K n = true) → AV.cls K [v])
    (h : ∀ rest, Tri Try.prog default f A (two R (famO rest) (.cells (vmap ca) (2 * tAl)) ka (.cells (vmap cb) (2 * tAl)) kb) v (two R' (famO rest) (.cells (vmap ca') (2 * tAl)) ka (.cells (vmap cb') (2 * tAl)) kb)) :
    Tri Try.prog default f A [(1, rowO R), (2, famO Fm)] v [(1, rowO R'), (2, famO ((Fm.set i (ka, ca')).set j (kb, cb')))] := by
  have hil : i < Fm.length := (List.getElem?_eq_some_iff.1 hi).1
  have hjl : j < Fm.length := (List.getElem?_eq_some_iff.1 hj).1
  obtain ⟨rest, hr⟩ := two_out Fm i j hil hjl hij
  have hself : (Fm.set i (ka, ca)).set j (kb, cb) = Fm := by
    rw [set_self Fm i _ hi, set_self Fm j _ hj]
  have p1 : Fm.Perm ((ka, ca) :: (kb, cb) :: rest) := by
    have := hr (ka, ca) (kb, cb)
    rwa [hself] at this
  have p2 := hr (ka, ca') (kb, cb')
  have cl0 : ∀ (K : Nat → Bool) (R : List Nat) (Fm : List (Nat × List Value)), ∀ x ∈ ([(1, rowO R), (2, famO Fm)] : LH), x.2.cl K := fun K R Fm => all_cons (cls_rowV _ _) (all_cons trivial all_nil)
  -- another order
  have g0 : ∀ (vs : List AV) (R : List Nat) (F1 F2 : List (Nat × List Value)), F1.Perm F2 → Goes vs [(1, rowO R), (2, famO F1)] vs [(1, rowO R), (2, famO F2)] := by
    intro vs R F1 F2 hp W0 F N ys w ⟨N', a1, a2, r, a3⟩
    refine ⟨N', a1, fun n hn hg => a2 n hn ?_, r.pull (σ := id) rfl rfl fun x hx => ?_, a3⟩
    · simp only [getO] at hg ⊢
      split at hg
      · cases hg
      · rename_i e1
        split at hg
        · cases hg
        · rename_i e2; rw [if_neg e1, if_neg e2]
    · simp only [List.mem_cons, List.not_mem_nil, or_false] at hx
      rcases hx with rfl | rfl
      · exact ⟨_, by rw [find_heapOf (by kernel_rfl)]; rfl, OW.of_eq (calm_row R _).symm⟩
      · exact ⟨_, by rw [find_heapOf (by kernel_rfl)]; rfl, ow_fam hp⟩
  -- one after the other out
  have g1 : Goes A [(1, rowO R), (2, famO ((ka, ca) :: (kb, cb) :: rest))] A [(1, rowO R), (2, famO ((kb, cb) :: rest)), (1004, .cells (vmap ca) (2 * tAl)), (1005, .same 1004 ka)] :=
    goes_out (k := 2) (i := 1004) (j := 1005) (e := tAl) (b := ka) (c := ca) (l := (kb, cb) :: rest) (by kernel_rfl) (by kernel_rfl) rfl rfl rfl rfl (by decide) rfl rfl (by decide)
      (fun n h1 h2 h3 => by simp only [getO, h1, h2, h3, if_false]) (fun _ _ _ _ h => h)
  have g2 : Goes A [(1, rowO R), (2, famO ((kb, cb) :: rest)), (1004, .cells (vmap ca) (2 * tAl)), (1005, .same 1004 ka)] A (two R (famO rest) (.cells (vmap ca) (2 * tAl)) ka (.cells (vmap cb) (2 * tAl)) kb) :=
    goes_out (k := 2) (i := 1006) (j := 1007) (e := tAl) (b := kb) (c := cb) (l := rest) (by kernel_rfl) (by kernel_rfl) rfl rfl rfl rfl (by decide) rfl rfl (by decide)
      (fun n h1 h2 h3 => by simp only [two, getO, h1, h2, h3, if_false]) (fun _ _ _ _ h => h)
  have g3 : Goes [v] (two R' (famO rest) (.cells (vmap ca') (2 * tAl)) ka (.cells (vmap cb') (2 * tAl)) kb) [v] [(1, rowO R'), (2, famO ((kb, cb') :: rest)), (1004, .cells (vmap ca') (2 * tAl)), (1005, .same 1004 ka)] :=
    goes_in (k := 2) (i := 1006) (j := 1007) (e := tAl) (b := kb) (c := cb') (l := rest) (by kernel_rfl) (by kernel_rfl) rfl rfl rfl rfl rfl rfl (by decide)
      (fun n h1 h2 h3 => by simp only [two, getO, h1, h2, h3, if_false]) (hv _ fun n hn => by rw [hn]; rfl) (all_cons (cls_rowV _ _) (all_cons trivial (all_cons (cls_vmap _ _) (all_cons rfl all_nil))))
  have g4 : Goes [v] [(1, rowO R'), (2, famO ((kb, cb') :: rest)), (1004, .cells (vmap ca') (2 * tAl)), (1005, .same 1004 ka)] [v] [(1, rowO R'), (2, famO ((ka, ca') :: (kb, cb') :: rest))] :=
    goes_in (k := 2) (i := 1004) (j := 1005) (e := tAl) (b := ka) (c := ca') (l := (kb, cb') :: rest) (by kernel_rfl) (by kernel_rfl) rfl rfl rfl rfl rfl rfl (by decide)
      (fun n h1 h2 h3 => by simp only [getO, h1, h2, h3, if_false]) (hv _ fun n hn => by rw [hn]; rfl) (cl0 _ _ _)
  exact Tri.pre ((g0 A R _ _ p1).trans (g1.trans g2)) (Tri.post (h rest) (g3.trans (g4.trans (g0 [v] R' _ _ p2.symm))))
end Go.Proofs.Ytojfbgmeaadanaa.Alm

/- Alarms: the pile's methods in a caller's hands. -/
set_option linter.unusedVariables false
set_option linter.unusedSimpArgs false
set_option maxRecDepth 100000
namespace Go.Proofs.Ytojfbgmeaadanaa.Alm
open Go Go.RowKit Go.Proofs.Ytojfbgmeaadanaa.Eng Go.Proofs.Ytojfbgmeaadanaa.Kit
theorem rowV_pv : ∀ R : List Nat, rowV pv R = R.map ptrV
  | [] => rfl
  | x :: R => by
    have ih := rowV_pv R
    rw [List.map_cons, ← ih]
    rfl
theorem row_len1 (R : List Nat) : (rowV pv R).length = R.length := by rw [rowV_pv, List.length_map]
theorem row_ptr (R : List Nat) (i : Nat) (d : AV) (b : Nat) (hi : R[i]? = some b) : (rowV pv R).getD (0 + i * 1) d = ptrV b := by
  rw [rowV_pv, Nat.zero_add, Nat.mul_one, List.getD, List.getElem?_map, hi]
  rfl
theorem row_put (R : List Nat) (i b : Nat) (hi : i < R.length) : splice (rowV pv R) (0 + i * 1) [ptrV b] = rowV pv (R.set i b) := by
  rw [Nat.zero_add]
  exact rowV_splice (k := 1) (fun _ => rfl) R i b hi
theorem blocks_at (s : Ps) (i : Nat) (hi : i < s.xs.length) : (blocks s)[i]? = some (at' s i).k := by
  rw [blocks, List.getElem?_append_left (by simpa using hi), List.getElem?_map, at', List.getD, List.getElem?_eq_getElem hi]
  rfl
theorem blocks_len (s : Ps) : (blocks s).length = s.xs.length + s.g.length := by simp [blocks]
/-- Another order. -/
theorem goes_perm (vs : List AV) (R : List Nat) {F1 F2 : List (Nat × List Value)} (hp : F1.Perm F2) : Goes vs [(1, rowO R), (2, famO F1)] vs [(1, rowO R), (2, famO F2)] := by
  intro W0 F N ys w ⟨N', a1, a2, r, a3⟩
  refine ⟨N', a1, fun n hn hg => a2 n hn ?_, r.pull (σ := id) rfl rfl fun x hx => ?_, a3⟩
  · simp only [getO] at hg ⊢
    split at hg
    · cases hg
    · rename_i e1
      split at hg
      · cases hg
      · rename_i e2; rw [if_neg e1, if_neg e2]
  · simp only [List.mem_cons, List.not_mem_nil, or_false] at hx
    rcases hx with rfl | rfl
    · exact ⟨_, by rw [find_heapOf (by kernel_rfl)]; rfl, OW.of_eq (calm_row R _).symm⟩
    · exact ⟨_, by rw [find_heapOf (by kernel_rfl)]; rfl, ow_fam hp⟩
theorem fam_get0 (l : List It) (i : Nat) (hi : i < l.length) : (fam 0 l)[i]? = some ((l.getD i It.zero).k, alC (l.getD i It.zero) i) := by
  have := fam_get 0 l i hi
  rwa [Nat.zero_add] at this
theorem fam_at (s : Ps) (i : Nat) (hi : i < s.xs.length) : (fam 0 s.xs)[i]? = some ((at' s i).k, alC (at' s i) i) := fam_get0 s.xs i hi
theorem fam_set0 (l : List It) (i : Nat) (y : It) : fam 0 (l.set i y) = (fam 0 l).set i (y.k, alC y i) := by
  have := fam_set 0 l i y
  rwa [Nat.zero_add] at this
theorem fits_two {v : AV} {R : List Nat} {fm : AO} {x y : It} {px py : Nat} {bx by_ : Nat} (hf : ∀ σ, fm.ren σ = fm) {os : List (Option AO)} (h : os = [some (rowO R), some fm, some (alO x px), some (.same 1004 bx), some (alO y py), some (.same 1006 by_)]) (hv : ∀ σ, AV.ren σ v = v) : Fits [1, 2, 1004, 1005, 1006, 1007] [v] os [v] (two R fm (alO x px) bx (alO y py) by_) := by
  subst h
  refine (fit_mk (vs := [v]) (vs' := [v]) (H' := two R fm (alO x px) bx (alO y py) by_) [(1004, 1004), (1005, 1005), (1006, 1006), (1007, 1007)] (by kernel_rfl) (by kernel_rfl) ?_ ⟨⟨_, rfl, OW.of_eq (calm_row R _).symm⟩, ⟨_, rfl, OW.of_eq (hf _).symm⟩, ⟨_, rfl, OW.refl _⟩, ⟨_, rfl, OW.refl _⟩, ⟨_, rfl, OW.refl _⟩, ⟨_, rfl, OW.refl _⟩, trivial⟩).fits rfl
  show VW [v] [AV.ren _ v]
  rw [hv]
  exact VW.refl _
theorem famO_ren (l : List (Nat × List Value)) (σ : Nat → Nat) : (famO l).ren σ = famO l := rfl
theorem less_tri (s : Ps) (c i j : Nat) (hij : i ≠ j) (hi : i < s.xs.length) (hj : j < s.xs.length) : Tri Try.prog default fLess [slR 1 s.xs.length c, iv (Int.ofNat i), iv (Int.ofNat j)] [(1, rowO (blocks s)), (2, famO (fam 0 s.xs))] (.v (.bool (ahead (at' s i) (at' s j)))) [(1, rowO (blocks s)), (2, famO (fam 0 s.xs))] := by
  have gi := fam_at s i hi
  have gj := fam_at s j hj
  have key := tri_two (f := fLess) (A := [slR 1 s.xs.length c, iv (Int.ofNat i), iv (Int.ofNat j)]) (v := .v (.bool (ahead (at' s i) (at' s j)))) (R := blocks s) (R' := blocks s) (Fm := fam 0 s.xs)
    (ca' := alC (at' s i) i) (cb' := alC (at' s j) j) hij gi gj (fun _ _ => ⟨trivial, trivial⟩) fun rest => ?_
  · rwa [set_self _ i _ gi, set_self _ j _ gj] at key
  · refine tri_run (con := []) (hints := hLess) (lc := []) [1, 2, 1004, 1005, 1006, 1007] rfl (fun _ _ => noC) (fun _ _ => noL) fun F => ?_
    have e := oLess_eq (blocks s) s.xs.length c i j i j (at' s i) (at' s j) (famO rest) F
    have p1 : ∀ d, (rowV pv (blocks s)).getD (0 + i * 1) d = ptrV (at' s i).k := fun d => row_ptr _ i d _ (blocks_at s i hi)
    have p2 : ∀ d, (rowV pv (blocks s)).getD (0 + j * 1) d = ptrV (at' s j).k := fun d => row_ptr _ j d _ (blocks_at s j hj)
    have l1 : 0 + i * 1 < s.xs.length + s.g.length := by omega
    have l2 : 0 + j * 1 < s.xs.length + s.g.length := by omega
    have fin : ∀ b, b = ahead (at' s i) (at' s j) → Fits [1, 2, 1004, 1005, 1006, 1007] [.v (.bool b)] [some (rowO (blocks s)), some (famO rest), some (alO (at' s i) i), some (.same 1004 (at' s i).k), some (alO (at' s j) j), some (.same 1006 (at' s j).k)] [.v (.bool (ahead (at' s i) (at' s j)))] (two (blocks s) (famO rest) (alO (at' s i) i) (at' s i).k (alO (at' s j) j) (at' s j).k) := fun b hb => by
      subst hb
      exact fits_two (famO_ren rest) rfl (fun _ => rfl)
    refine cast (congrArg (VAll _) e.symm) ?_
    refine ⟨fun h1 => ⟨?_, fin _ ?_⟩, fun h1 => ⟨fun h2 => ⟨?_, fin _ ?_⟩, fun h2 => ⟨?_, fin _ ?_⟩⟩⟩
    · simp only [Cnd.holds, p1, p2, row_len1, blocks_len, l1, l2, hi, hj, Nat.blt_eq, true_and, and_true]
      and_intros <;> exact Wk.refl _
    · simp only [ahead, h1, Bool.true_or]
    · simp only [Cnd.holds, p1, p2, row_len1, blocks_len, l1, l2, hi, hj, Nat.blt_eq, true_and, and_true]
      and_intros <;> exact Wk.refl _
    · simp only [ahead, h1, h2, Bool.false_or, Bool.true_and]
    · simp only [Cnd.holds, p1, p2, row_len1, blocks_len, l1, l2, hi, hj, Nat.blt_eq, true_and, and_true]
      and_intros <;> exact Wk.refl _
    · simp only [ahead, h1, h2, Bool.false_or, Bool.false_and]
def swapS (s : Ps) (i j : Nat) : Ps := { s with xs := (s.xs.set i (at' s j)).set j (at' s i) }
theorem swap_len (s : Ps) (i j : Nat) : (swapS s i j).xs.length = s.xs.length := by simp [swapS]
theorem swap_blocks (s : Ps) (i j : Nat) (hi : i < s.xs.length) (hj : j < s.xs.length) : blocks (swapS s i j) = ((blocks s).set i (at' s j).k).set j (at' s i).k := by
  simp only [blocks, swapS, List.map_set]
  rw [List.set_append_left _ _ (by simpa using hi), List.set_append_left _ _ (by simpa using hj)]
theorem swap_fam (s : Ps) (i j : Nat) (hij : i ≠ j) (hi : i < s.xs.length) (hj : j < s.xs.length) : ((((fam 0 s.xs).set i ((at' s i).k, alC (at' s i) j)).set j ((at' s j).k, alC (at' s j) i))).Perm (fam 0 (swapS s i j).xs) := by
  simp only [swapS, fam_set0]
  obtain ⟨rest, hr⟩ := two_out (fam 0 s.xs) i j (by rw [fam_len]; exact hi) (by rw [fam_len]; exact hj) hij
  exact (hr _ _).trans ((List.Perm.swap _ _ rest).trans (hr _ _).symm)
theorem swap_tri (s : Ps) (c i j : Nat) (hij : i ≠ j) (hi : i < s.xs.length) (hj : j < s.xs.length) : Tri Try.prog default fSwap [slR 1 s.xs.length c, iv (Int.ofNat i), iv (Int.ofNat j)] [(1, rowO (blocks s)), (2, famO (fam 0 s.xs))] (.tuple []) [(1, rowO (blocks (swapS s i j))), (2, famO (fam 0 (swapS s i j).xs))] := by
  refine Tri.post (H' := [(1, rowO (blocks (swapS s i j))), (2, famO ((((fam 0 s.xs).set i ((at' s i).k, alC (at' s i) j)).set j ((at' s j).k, alC (at' s j) i))))]) ?_ (goes_perm [.tuple []] _ (swap_fam s i j hij hi hj))
  refine tri_two (f := fSwap) (A := [slR 1 s.xs.length c, iv (Int.ofNat i), iv (Int.ofNat j)]) (v := .tuple []) (R := blocks s) (R' := blocks (swapS s i j)) (Fm := fam 0 s.xs)
    (ca' := alC (at' s i) j) (cb' := alC (at' s j) i) hij (fam_at s i hi) (fam_at s j hj) (fun _ _ => ⟨trivial, trivial⟩) fun rest => ?_
  refine tri_run (con := []) (hints := hSwap ((blocks s).set i (at' s j).k) (blocks (swapS s i j)) (at' s i) (at' s j)) (lc := []) [1, 2, 1004, 1005, 1006, 1007] rfl (fun _ _ => noC) (fun _ _ => noL) fun F => ?_
  have e := oSwap_eq (blocks s) ((blocks s).set i (at' s j).k) (blocks (swapS s i j)) s.xs.length c i j i j (at' s i) (at' s j) (famO rest) F
  have li : i < (blocks s).length := by rw [blocks_len]; omega
  have lj : j < (blocks s).length := by rw [blocks_len]; omega
  have p1 : ∀ d, (rowV pv (blocks s)).getD (0 + i * 1) d = ptrV (at' s i).k := fun d => row_ptr _ i d _ (blocks_at s i hi)
  have p2 : ∀ d, (rowV pv (blocks s)).getD (0 + j * 1) d = ptrV (at' s j).k := fun d => row_ptr _ j d _ (blocks_at s j hj)
  have q1 : ∀ d, (rowV pv (blocks (swapS s i j))).getD (0 + i * 1) d = ptrV (at' s j).k := fun d => row_ptr _ i d _ (by
    rw [swap_blocks s i j hi hj, List.getElem?_set_ne (Ne.symm hij), List.getElem?_set_self li])
  have q2 : ∀ d, (rowV pv (blocks (swapS s i j))).getD (0 + j * 1) d = ptrV (at' s i).k := fun d => row_ptr _ j d _ (by
    rw [swap_blocks s i j hi hj, List.getElem?_set_self (by rw [List.length_set]; exact lj)])
  have r1 : splice (rowV pv (blocks s)) (0 + i * 1) [ptrV (at' s j).k] = rowV pv ((blocks s).set i (at' s j).k) := row_put _ _ _ li
  have r2 : splice (rowV pv ((blocks s).set i (at' s j).k)) (0 + j * 1) [ptrV (at' s i).k] = rowV pv (blocks (swapS s i j)) := by
    rw [row_put _ _ _ (by rw [List.length_set]; exact lj), swap_blocks s i j hi hj]
  have n1 : (blocks (swapS s i j)).length = (blocks s).length := by rw [swap_blocks s i j hi hj, List.length_set, List.length_set]
  refine cast (congrArg (VAll _) e.symm) ⟨⟨?_, fits_two (famO_ren rest) rfl (fun _ => rfl)⟩⟩
  have l1 : 0 + i * 1 < (blocks s).length := by omega
  have l2 : 0 + j * 1 < (blocks s).length := by omega
  have l3 : 0 + i * 1 + 1 ≤ (blocks s).length := by omega
  have l4 : 0 + j * 1 + 1 ≤ (blocks s).length := by omega
  simp only [Cnd.holds, p1, p2, q1, q2, row_len1, List.length_set, n1, l1, l2, l3, l4, hi, hj, Nat.blt_eq, Nat.ble_eq, true_and, and_true]
  and_intros
  all_goals first
    | exact Wk.refl _
    | exact ow_cells r1
    | exact ow_cells r2
end Go.Proofs.Ytojfbgmeaadanaa.Alm

/- Alarms: Swap at one place; runs. -/
set_option linter.unusedVariables false
set_option linter.unusedSimpArgs false
set_option maxRecDepth 100000
namespace Go.Proofs.Ytojfbgmeaadanaa.Alm
open Go Go.RowKit Go.Proofs.Ytojfbgmeaadanaa.Eng Go.Proofs.Ytojfbgmeaadanaa.Kit
noncomputable section
/-- One alarm lies open. -/
def one (R : List Nat) (fm : AO) (oX : AO) (bx : Nat) : LH := [(1, rowO R), (2, fm), (1004, oX), (1005, .same 1004 bx)]
def hSwap1 (R : List Nat) (x : It) : ClaimT := hintL [(fSwap, 0, 7, hv (ptrV x.k)), (fSwap, 0, 11, hv (ptrV x.k)), (fSwap, 0, 13, ho 1 (rowO R)), (fSwap, 0, 15, ho 1 (rowO R)), (fSwap, 1, 3, hp 1005), (fSwap, 1, 7, hp 1005)]
theorem oSwap1_eq (R : List Nat) (n c i px : Nat) (x : It) (fm : AO) (F : HP) : wRun [] (hSwap1 R x) [] default fSwap [slR 1 n c, iv (Int.ofNat i), iv (Int.ofNat i)] (one R fm (alO x px) x.k) [1, 2, 1004, 1005] F = VT.leaf (AV.tuple []) [some (AO.cells (rowV pv R) 110), some fm, some (AO.cells [AV.v (Value.int IntKind.i64 x.c), AV.v (Value.int IntKind.i64 x.a), AV.v (Value.int IntKind.i64 x.b), AV.v (Value.int IntKind.i64 (Int.ofNat i))] 114), some (AO.same 1004 x.k)] 1100 (((Cnd.p (i.blt n = true)).a Cnd.t).a (((Cnd.p ((0 + i * 1).blt (rowV pv R).length = true)).a ((Cnd.p (Wk ((rowV pv R).getD (0 + i * 1) (AV.v (Value.tuple (Array.mk [])))) (AV.v (Value.pointer (some (Addr.mk x.k 0 none)))))).a Cnd.t)).a (((Cnd.p (i.blt n = true)).a Cnd.t).a (((Cnd.p ((0 + i * 1).blt (rowV pv R).length = true)).a ((Cnd.p (Wk ((rowV pv R).getD (0 + i * 1) (AV.v (Value.tuple (Array.mk [])))) (AV.v (Value.pointer (some (Addr.mk x.k 0 none)))))).a Cnd.t)).a (((Cnd.p (i.blt n = true)).a Cnd.t).a (((Cnd.p ((0 + i * 1 + 1).ble (rowV pv R).length = true)).a ((Cnd.p (OW (AO.cells (splice (rowV pv R) (0 + i * 1) [AV.v (Value.pointer (some (Addr.mk x.k 0 none)))]) 110) (AO.cells (rowV pv R) 110))).a Cnd.t)).a (((Cnd.p (i.blt n = true)).a Cnd.t).a (((Cnd.p ((0 + i * 1 + 1).ble (rowV pv R).length = true)).a ((Cnd.p (OW (AO.cells (splice (rowV pv R) (0 + i * 1) [AV.v (Value.pointer (some (Addr.mk x.k 0 none)))]) 110) (AO.cells (rowV pv R) 110))).a Cnd.t)).a (((Cnd.p (i.blt n = true)).a Cnd.t).a (((Cnd.p ((0 + i * 1).blt (rowV pv R).length = true)).a ((Cnd.p (Wk ((rowV pv R).getD (0 + i * 1) (AV.v (Value.tuple (Array.mk [])))) (AV.v (Value.pointer (some (Addr.mk x.k 0 none)))))).a Cnd.t)).a (((Cnd.p (i.blt n = true)).a Cnd.t).a (((Cnd.p ((0 + i * 1).blt (rowV pv R).length = true)).a ((Cnd.p (Wk ((rowV pv R).getD (0 + i * 1) (AV.v (Value.tuple (Array.mk [])))) (AV.v (Value.pointer (some (Addr.mk x.k 0 none)))))).a Cnd.t)).a (((Cnd.p (true = true)).a Cnd.t).a (((Cnd.p (true = true)).a Cnd.t).a Cnd.t)))))))))))))) := by kernel_rfl
end
end Go.Proofs.Ytojfbgmeaadanaa.Alm

/- Alarms: Swap at one place, Len, Pop. -/
set_option linter.unusedVariables false
set_option linter.unusedSimpArgs false
set_option maxRecDepth 100000
namespace Go.Proofs.Ytojfbgmeaadanaa.Alm
open Go Go.RowKit Go.Proofs.Ytojfbgmeaadanaa.Eng Go.Proofs.Ytojfbgmeaadanaa.Kit
theorem perm_at {α : Type} (F : List α) (i : Nat) (a : α) (h : F[i]? = some a) : F.Perm (a :: F.eraseIdx i) := by
  have := perm_set1 F i a (List.getElem?_eq_some_iff.1 h).1
  rwa [set_self F i a h] at this
theorem swap1_tri (s : Ps) (c i : Nat) (hi : i < s.xs.length) : Tri Try.prog default fSwap [slR 1 s.xs.length c, iv (Int.ofNat i), iv (Int.ofNat i)] [(1, rowO (blocks s)), (2, famO (fam 0 s.xs))] (.tuple []) [(1, rowO (blocks s)), (2, famO (fam 0 s.xs))] := by
  have p := perm_at _ i _ (fam_at s i hi)
  have g1 : Goes [slR 1 s.xs.length c, iv (Int.ofNat i), iv (Int.ofNat i)] [(1, rowO (blocks s)), (2, famO (((at' s i).k, alC (at' s i) i) :: (fam 0 s.xs).eraseIdx i))] [slR 1 s.xs.length c, iv (Int.ofNat i), iv (Int.ofNat i)] (one (blocks s) (famO ((fam 0 s.xs).eraseIdx i)) (alO (at' s i) i) (at' s i).k) :=
    goes_out (k := 2) (i := 1004) (j := 1005) (e := tAl) (b := (at' s i).k) (c := alC (at' s i) i) (l := (fam 0 s.xs).eraseIdx i) (by kernel_rfl) (by kernel_rfl) rfl rfl rfl rfl (by decide) rfl rfl (by decide)
      (fun n h1 h2 h3 => by simp only [one, getO, h1, h2, h3, if_false]) (fun _ _ _ _ h => h)
  have g2 : Goes [.tuple []] (one (blocks s) (famO ((fam 0 s.xs).eraseIdx i)) (alO (at' s i) i) (at' s i).k) [.tuple []] [(1, rowO (blocks s)), (2, famO (((at' s i).k, alC (at' s i) i) :: (fam 0 s.xs).eraseIdx i))] :=
    goes_in (k := 2) (i := 1004) (j := 1005) (e := tAl) (b := (at' s i).k) (c := alC (at' s i) i) (l := (fam 0 s.xs).eraseIdx i) (by kernel_rfl) (by kernel_rfl) rfl rfl rfl rfl rfl rfl (by decide)
      (fun n h1 h2 h3 => by simp only [one, getO, h1, h2, h3, if_false]) ⟨trivial, trivial⟩ (all_cons (cls_rowV _ _) (all_cons trivial all_nil))
  refine Tri.pre ((goes_perm _ _ p).trans g1) (Tri.post ?_ (g2.trans (goes_perm _ _ p.symm)))
  refine tri_run (con := []) (hints := hSwap1 (blocks s) (at' s i)) (lc := []) [1, 2, 1004, 1005] rfl (fun _ _ => noC) (fun _ _ => noL) fun F => ?_
  have e := oSwap1_eq (blocks s) s.xs.length c i i (at' s i) (famO ((fam 0 s.xs).eraseIdx i)) F
  have li : i < (blocks s).length := by rw [blocks_len]; omega
  have p1 : ∀ d, (rowV pv (blocks s)).getD (0 + i * 1) d = ptrV (at' s i).k := fun d => row_ptr _ i d _ (blocks_at s i hi)
  have r1 : splice (rowV pv (blocks s)) (0 + i * 1) [ptrV (at' s i).k] = rowV pv (blocks s) := by
    rw [row_put _ _ _ li, set_self _ _ _ (blocks_at s i hi)]
  refine cast (congrArg (VAll _) e.symm) ⟨⟨?_, (fit_mk (vs := [.tuple []]) (vs' := [.tuple []]) (H' := one (blocks s) (famO ((fam 0 s.xs).eraseIdx i)) (alO (at' s i) i) (at' s i).k) [(1004, 1004), (1005, 1005)] (by kernel_rfl) (by kernel_rfl) (VW.refl _)
    ⟨⟨_, rfl, OW.of_eq (calm_row _ _).symm⟩, ⟨_, rfl, OW.refl _⟩, ⟨_, rfl, OW.refl _⟩, ⟨_, rfl, OW.refl _⟩, trivial⟩).fits rfl⟩⟩
  have l1 : 0 + i * 1 < (blocks s).length := by omega
  have l3 : 0 + i * 1 + 1 ≤ (blocks s).length := by omega
  simp only [Cnd.holds, p1, row_len1, l1, l3, hi, Nat.blt_eq, Nat.ble_eq, true_and, and_true]
  and_intros
  all_goals first
    | exact Wk.refl _
    | exact ow_cells r1
theorem len_tri (n c : Nat) : Tri Try.prog default fLen [slR 1 n c] [] (iv (Int.ofNat n)) [] := by
  refine tri_run (con := []) (hints := noHints) (lc := []) [] rfl (fun _ _ => noC) (fun _ _ => noL) fun F => ?_
  rw [oLen_eq]
  exact ⟨⟨trivial, (fit_mk (vs := [iv (Int.ofNat n)]) (vs' := [iv (Int.ofNat n)]) [] rfl rfl (VW.refl _) (show ObjsOK [] [] [] [] from trivial)).fits rfl⟩⟩
theorem len0_tri : Tri Try.prog default fLen [.v (.slice none 0 0)] [] (iv (Int.ofNat 0)) [] := by
  refine tri_run (con := []) (hints := noHints) (lc := []) [] rfl (fun _ _ => noC) (fun _ _ => noL) fun F => ?_
  rw [oLen0_eq]
  exact ⟨⟨trivial, (fit_mk (vs := [iv (Int.ofNat 0)]) (vs' := [iv (Int.ofNat 0)]) [] rfl rfl (VW.refl _) (show ObjsOK [] [] [] [] from trivial)).fits rfl⟩⟩
end Go.Proofs.Ytojfbgmeaadanaa.Alm

/- Alarms: the pile's methods as contracts; Pop; up and down: runs. -/
set_option linter.unusedVariables false
set_option linter.unusedSimpArgs false
set_option maxRecDepth 100000
namespace Go.Proofs.Ytojfbgmeaadanaa.Alm
open Go Go.RowKit Go.Proofs.Ytojfbgmeaadanaa.Eng Go.Proofs.Ytojfbgmeaadanaa.Kit
/-- The last alarm goes; one more comes. -/
def popS (s : Ps) : Ps := { s with xs := s.xs.dropLast, g := (at' s (s.xs.length - 1)).k :: s.g }
def pushS (s : Ps) (x : It) : Ps := { s with xs := s.xs ++ [x], g := [] }
noncomputable section
def rfL (s : Ps) : LH := [(1, rowO (blocks s)), (2, famO (fam 0 s.xs))]
def uL (s : Ps) : LH := [(0, hdr 1 3 s.xs.length (roomOf s) s.tn), (1, rowO (blocks s)), (2, famO (fam 0 s.xs)), (3, mapO s)]
/-- Names: of a row and what lies beside it; of a clock. -/
def nmR (r : Nat) : Nat → Nat := fun k => match Nat.beq k 1 with
  | true => r
  | false => match Nat.beq k 2 with
    | true => r + 1
    | false => k
def nmU (i r m : Nat) : Nat → Nat := fun k => match Nat.beq k 0 with
  | true => i
  | false => match Nat.beq k 3 with
    | true => m
    | false => match Nat.beq k 1 with
      | true => r
      | false => match Nat.beq k 2 with
        | true => r + 1
        | false => k
def gTwo : List AV → AP (Nat × Nat × Nat) := fun args => match args with
  | [.slice r _ _ _ _, .v (.int .i64 a), .v (.int .i64 b)] => .ret (r, a.toNat, b.toNat)
  | _ => .fail "two"
def cLess (s : Ps) : List AV → Option (AP AV) := mkC gTwo (fun p => p.2.1 ≠ p.2.2 ∧ p.2.1 < s.xs.length ∧ p.2.2 < s.xs.length) (fun p => nmR p.1)
  (fun p => [slR 1 s.xs.length (roomOf s), iv (Int.ofNat p.2.1), iv (Int.ofNat p.2.2)]) (fun _ => rfL s) (fun p => .leaf .ret [.v (.bool (ahead (at' s p.2.1) (at' s p.2.2)))] (rfL s))
def cSwap (s : Ps) : List AV → Option (AP AV) := mkC gTwo (fun p => p.2.1 < s.xs.length ∧ p.2.2 < s.xs.length) (fun p => nmR p.1)
  (fun p => [slR 1 s.xs.length (roomOf s), iv (Int.ofNat p.2.1), iv (Int.ofNat p.2.2)]) (fun _ => rfL s) (fun p => .leaf .ret [.tuple []] (rfL (swapS s p.2.1 p.2.2)))
def gLen : List AV → AP (Nat × Nat) := fun args => match args with
  | [.slice r _ n _ _] => .ret (r, n)
  | _ => .fail "len"
def cLen (s : Ps) : List AV → Option (AP AV) := mkC gLen (fun _ => True) (fun p => nmR p.1) (fun p => [slR 1 s.xs.length (roomOf s)]) (fun _ => rfL s) (fun p => .leaf .ret [iv (Int.ofNat s.xs.length)] (rfL s))
theorem oLenR_eq (s : Ps) (F : HP) : wRun [] noHints [] default fLen [slR 1 s.xs.length (roomOf s)] (rfL s) [1, 2] F = VT.leaf (AV.v (Value.int IntKind.i64 ↑s.xs.length)) [some (AO.cells (rowV pv (blocks s)) 110), some (AO.any (famHP 57 (fam 0 s.xs)))] 1100 Cnd.t := by kernel_rfl
/-- The alarm that was taken out: its name; where it lies. -/
def alP : AV := .iface 55 (.ptr 1004 0)
def outL (x : It) (p : Nat) : LH := [(1004, alO x p), (1005, .same 1004 x.k)]
def gHead : List AV → AP (Nat × Nat × Nat) := fun args => match args with
  | .ptr i 0 :: _ => .read i fun o => match o with
    | .cells (.slice r _ _ _ _ :: .map m :: _) _ => .ret (i, r, m)
    | _ => .fail "head"
  | .iface _ (.ptr i 0) :: _ => .read i fun o => match o with
    | .cells (.slice r _ _ _ _ :: .map m :: _) _ => .ret (i, r, m)
    | _ => .fail "head"
  | _ => .fail "head"
def lastOf (s : Ps) : It := at' s (s.xs.length - 1)
def cPop (s : Ps) : List AV → Option (AP AV) := mkC gHead (fun _ => 0 < s.xs.length ∧ s.xs.length ≤ 9223372036854775807) (fun p => nmU p.1 p.2.1 p.2.2) (fun _ => [.ptr 0 0]) (fun _ => uL s) (fun _ => .leaf .ret [alP] (uL (popS s) ++ outL (lastOf s) (s.xs.length - 1)))
def hPopF (n : Nat) : ClaimT := hintL [(fPop, 1, 3, hv (iv (Int.ofNat n))), (fPop, 1, 4, hv (iv (Int.ofNat (n - 1)))), (fPop, 2, 5, hp 1005)]
theorem oPopF_eq (R : List Nat) (n c b : Nat) (x : It) (p : Nat) (tn : Int) (fm mo : AO) (F : HP) : wRun [] (hPopF n) [] default fPop [.ptr 0 0] [(0, hdr 1 3 n c tn), (1, rowO R), (2, fm), (3, mo), (1004, alO x p), (1005, .same 1004 b)] [0, 1, 2, 3, 1004, 1005] F = VT.leaf (AV.iface 55 (AV.ptr 1004 0)) [some (AO.cells [AV.slice 1 0 (n - 1 - 0) 1 (Cp.lo c), AV.map 3, AV.v (Value.int IntKind.i64 tn)] 108), some (AO.cells (rowV pv R) 110), some fm, some mo, some (AO.cells [AV.v (Value.int IntKind.i64 x.c), AV.v (Value.int IntKind.i64 x.a), AV.v (Value.int IntKind.i64 x.b), AV.v (Value.int IntKind.i64 (Int.ofNat p))] 114), some (AO.same 1004 b)] 1100 (((Cnd.p (true = true)).a Cnd.t).a (((Cnd.p (Wk (AV.v (Value.int IntKind.i64 ↑n)) (AV.v (Value.int IntKind.i64 (Int.ofNat n))))).a Cnd.t).a (((Cnd.p (Wk (AV.v (Value.int IntKind.i64 (IntKind.i64.wrap (Int.ofNat n - Int.ofNat 1)))) (AV.v (Value.int IntKind.i64 (Int.ofNat (n - 1)))))).a Cnd.t).a (((Cnd.p (true = true)).a Cnd.t).a (((Cnd.p ((n - 1).blt n = true)).a Cnd.t).a (((Cnd.p ((0 + (n - 1) * 1).blt (rowV pv R).length = true)).a ((Cnd.p (Wk ((rowV pv R).getD (0 + (n - 1) * 1) (AV.v (Value.tuple (Array.mk [])))) (AV.v (Value.pointer (some (Addr.mk b 0 none)))))).a Cnd.t)).a (((Cnd.p (true = true)).a Cnd.t).a (((Cnd.p (true = true)).a ((Cnd.p ((n - 1).ble c = true)).a ((Cnd.p (c.ble c = true)).a Cnd.t))).a (((Cnd.p (true = true)).a Cnd.t).a Cnd.t))))))))) := by kernel_rfl
abbrev fUp : Nat := 22
abbrev fDown : Nat := 23
def hI : AV := .iface 59 (.ptr 0 0)
def upA (j : Nat) : List (Nat × AV) := [(0, hI), (1, iv (Int.ofNat j))]
def hUp (j : Nat) : ClaimT := hintL [(fUp, 0, 2, hv (iv (Int.ofNat ((j - 1) / 2))))]
theorem oUp_eq (s : Ps) (j : Nat) (F : HP) : wLoop [(fLess, cLess s), (fSwap, cSwap s)] (hUp j) [] default fUp (loopN fUp 0) (tms 0 23 (upA j)) (uL s) [0, 1, 2, 3] [0, 1] F = VT.ite (Int.ofNat ((j - 1) / 2) == Int.ofNat j) (VT.leaf (AX.exit 0, [AV.iface 59 (AV.ptr 0 0), AV.v (Value.int IntKind.i64 (Int.ofNat j))], 23) [some (AO.cells [AV.slice 1 0 s.xs.length 1 (Cp.lo (roomOf s)), AV.map 3, AV.v (Value.int IntKind.i64 s.tn)] 108), some (AO.cells (rowV pv (blocks s)) 110), some (AO.any (famHP 57 (fam 0 s.xs))), some (AO.map (mE ptrV s.m) s.ck)] 1100 (((Cnd.p (Wk (AV.v (Value.int IntKind.i64 (IntKind.i64.wrap ((IntKind.i64.wrap (Int.ofNat j - Int.ofNat 1)).tdiv (Int.ofNat 2))))) (AV.v (Value.int IntKind.i64 (Int.ofNat ((j - 1) / 2)))))).a Cnd.t).a Cnd.t)) (VT.ite (!ahead (at' s j) (at' s (Int.ofNat ((j - 1) / 2)).toNat)) (VT.leaf (AX.exit 0, [AV.iface 59 (AV.ptr 0 0), AV.v (Value.int IntKind.i64 (Int.ofNat j))], 23) [some (AO.cells [AV.slice 1 0 s.xs.length 1 (Cp.lo (roomOf s)), AV.map 3, AV.v (Value.int IntKind.i64 s.tn)] 108), some (AO.cells (AV.rens (sgN (nmR 1) [] 0) (rowV pv (blocks s))) 110), some (AO.any (famHP 57 (fam 0 s.xs))), some (AO.map (mE ptrV s.m) s.ck)] 1100 (((Cnd.p (Wk (AV.v (Value.int IntKind.i64 (IntKind.i64.wrap ((IntKind.i64.wrap (Int.ofNat j - Int.ofNat 1)).tdiv (Int.ofNat 2))))) (AV.v (Value.int IntKind.i64 (Int.ofNat ((j - 1) / 2)))))).a Cnd.t).a (((Cnd.p (true = true)).a ((Cnd.p (j ≠ (Int.ofNat ((j - 1) / 2)).toNat ∧ j < s.xs.length ∧ (Int.ofNat ((j - 1) / 2)).toNat < s.xs.length)).a ((Cnd.p (VW [AV.slice 1 0 s.xs.length 1 (Cp.lo (roomOf s)), AV.v (Value.int IntKind.i64 (Int.ofNat j)), AV.v (Value.int IntKind.i64 (Int.ofNat ((j - 1) / 2)))] [AV.slice 1 0 s.xs.length 1 (Cp.lo (roomOf s)), AV.v (Value.int IntKind.i64 (Int.ofNat j)), AV.v (Value.int IntKind.i64 (Int.ofNat (Int.ofNat ((j - 1) / 2)).toNat))])).a ((Cnd.p (OW (AO.cells (rowV pv (blocks s)) 110) (AO.cells (AV.rens (nmR 1) (rowV pv (blocks s))) 110))).a ((Cnd.p (OW (AO.any (famHP 57 (fam 0 s.xs))) (AO.any (famHP 57 (fam 0 s.xs))))).a Cnd.t))))).a Cnd.t))) (VT.leaf (AX.normal, [AV.iface 59 (AV.ptr 0 0), AV.v (Value.int IntKind.i64 (Int.ofNat ((j - 1) / 2)))], 23) [some (AO.cells [AV.slice 1 0 s.xs.length 1 (Cp.lo (roomOf s)), AV.map 3, AV.v (Value.int IntKind.i64 s.tn)] 108), some (AO.cells (AV.rens (sgN (nmR 1) [] 0) (rowV pv (blocks (swapS s (Int.ofNat ((j - 1) / 2)).toNat j)))) 110), some (AO.any (famHP 57 (fam 0 ((s.xs.set (Int.ofNat ((j - 1) / 2)).toNat (at' s j)).set j (at' s (Int.ofNat ((j - 1) / 2)).toNat))))), some (AO.map (mE ptrV s.m) s.ck)] 1100 (((Cnd.p (Wk (AV.v (Value.int IntKind.i64 (IntKind.i64.wrap ((IntKind.i64.wrap (Int.ofNat j - Int.ofNat 1)).tdiv (Int.ofNat 2))))) (AV.v (Value.int IntKind.i64 (Int.ofNat ((j - 1) / 2)))))).a Cnd.t).a (((Cnd.p (true = true)).a ((Cnd.p (j ≠ (Int.ofNat ((j - 1) / 2)).toNat ∧ j < s.xs.length ∧ (Int.ofNat ((j - 1) / 2)).toNat < s.xs.length)).a ((Cnd.p (VW [AV.slice 1 0 s.xs.length 1 (Cp.lo (roomOf s)), AV.v (Value.int IntKind.i64 (Int.ofNat j)), AV.v (Value.int IntKind.i64 (Int.ofNat ((j - 1) / 2)))] [AV.slice 1 0 s.xs.length 1 (Cp.lo (roomOf s)), AV.v (Value.int IntKind.i64 (Int.ofNat j)), AV.v (Value.int IntKind.i64 (Int.ofNat (Int.ofNat ((j - 1) / 2)).toNat))])).a ((Cnd.p (OW (AO.cells (rowV pv (blocks s)) 110) (AO.cells (AV.rens (nmR 1) (rowV pv (blocks s))) 110))).a ((Cnd.p (OW (AO.any (famHP 57 (fam 0 s.xs))) (AO.any (famHP 57 (fam 0 s.xs))))).a Cnd.t))))).a (((Cnd.p (true = true)).a ((Cnd.p ((Int.ofNat ((j - 1) / 2)).toNat < s.xs.length ∧ j < s.xs.length)).a ((Cnd.p (VW [AV.slice 1 0 s.xs.length 1 (Cp.lo (roomOf s)), AV.v (Value.int IntKind.i64 (Int.ofNat ((j - 1) / 2))), AV.v (Value.int IntKind.i64 (Int.ofNat j))] [AV.slice 1 0 s.xs.length 1 (Cp.lo (roomOf s)), AV.v (Value.int IntKind.i64 (Int.ofNat (Int.ofNat ((j - 1) / 2)).toNat)), AV.v (Value.int IntKind.i64 (Int.ofNat j))])).a ((Cnd.p (OW (AO.cells (AV.rens (sgN (nmR 1) [] 0) (rowV pv (blocks s))) 110) (AO.cells (AV.rens (nmR 1) (rowV pv (blocks s))) 110))).a ((Cnd.p (OW (AO.any (famHP 57 (fam 0 s.xs))) (AO.any (famHP 57 (fam 0 s.xs))))).a Cnd.t))))).a Cnd.t))))) := by kernel_rfl
def upS (s : Ps) (j : Nat) : Ps := if h : j = 0 then s else if ahead (at' s j) (at' s ((j - 1) / 2)) = true then upS (swapS s ((j - 1) / 2) j) ((j - 1) / 2) else s
  termination_by j
  decreasing_by omega
def downA (i0 n i : Nat) : List (Nat × AV) := [(0, hI), (1, iv (Int.ofNat i0)), (2, iv (Int.ofNat n)), (7, iv (Int.ofNat i))]
def hDown (i : Nat) : ClaimT := hintL [(fDown, 2, 2, hv (iv (Int.ofNat (2 * i + 1)))), (fDown, 5, 1, hv (iv (Int.ofNat (2 * i + 2))))]
theorem oDown_eq (s : Ps) (i0 n i : Nat) (F : HP) : wLoop [(fLess, cLess s), (fSwap, cSwap s)] (hDown i) [] default fDown (loopN fDown 2) (tms 0 48 (downA i0 n i)) (uL s) [0, 1, 2, 3] [0, 1, 2, 7] F = VT.ite (decide (Int.ofNat (2 * i + 1) ≥ Int.ofNat n)) (VT.leaf (AX.exit 0, [AV.iface 59 (AV.ptr 0 0), AV.v (Value.int IntKind.i64 (Int.ofNat i0)), AV.v (Value.int IntKind.i64 (Int.ofNat n)), AV.v (Value.int IntKind.i64 (Int.ofNat i))], 48) [some (AO.cells [AV.slice 1 0 s.xs.length 1 (Cp.lo (roomOf s)), AV.map 3, AV.v (Value.int IntKind.i64 s.tn)] 108), some (AO.cells (rowV pv (blocks s)) 110), some (AO.any (famHP 57 (fam 0 s.xs))), some (AO.map (mE ptrV s.m) s.ck)] 1100 (((Cnd.p (Wk (AV.v (Value.int IntKind.i64 (IntKind.i64.wrap (IntKind.i64.wrap (Int.ofNat 2 * Int.ofNat i) + Int.ofNat 1)))) (AV.v (Value.int IntKind.i64 (Int.ofNat (2 * i + 1)))))).a Cnd.t).a Cnd.t)) (VT.ite false (VT.leaf (AX.exit 0, [AV.iface 59 (AV.ptr 0 0), AV.v (Value.int IntKind.i64 (Int.ofNat i0)), AV.v (Value.int IntKind.i64 (Int.ofNat n)), AV.v (Value.int IntKind.i64 (Int.ofNat i))], 48) [some (AO.cells [AV.slice 1 0 s.xs.length 1 (Cp.lo (roomOf s)), AV.map 3, AV.v (Value.int IntKind.i64 s.tn)] 108), some (AO.cells (rowV pv (blocks s)) 110), some (AO.any (famHP 57 (fam 0 s.xs))), some (AO.map (mE ptrV s.m) s.ck)] 1100 (((Cnd.p (Wk (AV.v (Value.int IntKind.i64 (IntKind.i64.wrap (IntKind.i64.wrap (Int.ofNat 2 * Int.ofNat i) + Int.ofNat 1)))) (AV.v (Value.int IntKind.i64 (Int.ofNat (2 * i + 1)))))).a Cnd.t).a Cnd.t)) (VT.ite (decide (Int.ofNat (2 * i + 2) < Int.ofNat n)) (VT.ite (ahead (at' s (Int.ofNat (2 * i + 2)).toNat) (at' s (Int.ofNat (2 * i + 1)).toNat)) (VT.ite (!ahead (at' s (Int.ofNat (2 * i + 2)).toNat) (at' s i)) (VT.leaf (AX.exit 0, [AV.iface 59 (AV.ptr 0 0), AV.v (Value.int IntKind.i64 (Int.ofNat i0)), AV.v (Value.int IntKind.i64 (Int.ofNat n)), AV.v (Value.int IntKind.i64 (Int.ofNat i))], 48) [some (AO.cells [AV.slice 1 0 s.xs.length 1 (Cp.lo (roomOf s)), AV.map 3, AV.v (Value.int IntKind.i64 s.tn)] 108), some (AO.cells (AV.rens (sgN (nmR 1) [] 0) (rowV pv (blocks s))) 110), some (AO.any (famHP 57 (fam 0 s.xs))), some (AO.map (mE ptrV s.m) s.ck)] 1100 (((Cnd.p (Wk (AV.v (Value.int IntKind.i64 (IntKind.i64.wrap (IntKind.i64.wrap (Int.ofNat 2 * Int.ofNat i) + Int.ofNat 1)))) (AV.v (Value.int IntKind.i64 (Int.ofNat (2 * i + 1)))))).a Cnd.t).a (((Cnd.p (Wk (AV.v (Value.int IntKind.i64 (IntKind.i64.wrap (Int.ofNat (2 * i + 1) + Int.ofNat 1)))) (AV.v (Value.int IntKind.i64 (Int.ofNat (2 * i + 2)))))).a Cnd.t).a (((Cnd.p (true = true)).a ((Cnd.p ((Int.ofNat (2 * i + 2)).toNat ≠ (Int.ofNat (2 * i + 1)).toNat ∧ (Int.ofNat (2 * i + 2)).toNat < s.xs.length ∧ (Int.ofNat (2 * i + 1)).toNat < s.xs.length)).a ((Cnd.p (VW [AV.slice 1 0 s.xs.length 1 (Cp.lo (roomOf s)), AV.v (Value.int IntKind.i64 (Int.ofNat (2 * i + 2))), AV.v (Value.int IntKind.i64 (Int.ofNat (2 * i + 1)))] [AV.slice 1 0 s.xs.length 1 (Cp.lo (roomOf s)), AV.v (Value.int IntKind.i64 (Int.ofNat (Int.ofNat (2 * i + 2)).toNat)), AV.v (Value.int IntKind.i64 (Int.ofNat (Int.ofNat (2 * i + 1)).toNat))])).a ((Cnd.p (OW (AO.cells (rowV pv (blocks s)) 110) (AO.cells (AV.rens (nmR 1) (rowV pv (blocks s))) 110))).a ((Cnd.p (OW (AO.any (famHP 57 (fam 0 s.xs))) (AO.any (famHP 57 (fam 0 s.xs))))).a Cnd.t))))).a (((Cnd.p (true = true)).a ((Cnd.p ((Int.ofNat (2 * i + 2)).toNat ≠ i ∧ (Int.ofNat (2 * i + 2)).toNat < s.xs.length ∧ i < s.xs.length)).a ((Cnd.p (VW [AV.slice 1 0 s.xs.length 1 (Cp.lo (roomOf s)), AV.v (Value.int IntKind.i64 (Int.ofNat (2 * i + 2))), AV.v (Value.int IntKind.i64 (Int.ofNat i))] [AV.slice 1 0 s.xs.length 1 (Cp.lo (roomOf s)), AV.v (Value.int IntKind.i64 (Int.ofNat (Int.ofNat (2 * i + 2)).toNat)), AV.v (Value.int IntKind.i64 (Int.ofNat i))])).a ((Cnd.p (OW (AO.cells (AV.rens (sgN (nmR 1) [] 0) (rowV pv (blocks s))) 110) (AO.cells (AV.rens (nmR 1) (rowV pv (blocks s))) 110))).a ((Cnd.p (OW (AO.any (famHP 57 (fam 0 s.xs))) (AO.any (famHP 57 (fam 0 s.xs))))).a Cnd.t))))).a Cnd.t))))) (VT.leaf (AX.normal, [AV.iface 59 (AV.ptr 0 0), AV.v (Value.int IntKind.i64 (Int.ofNat i0)), AV.v (Value.int IntKind.i64 (Int.ofNat n)), AV.v (Value.int IntKind.i64 (Int.ofNat (2 * i + 2)))], 48) [some (AO.cells [AV.slice 1 0 s.xs.length 1 (Cp.lo (roomOf s)), AV.map 3, AV.v (Value.int IntKind.i64 s.tn)] 108), some (AO.cells (AV.rens (sgN (nmR 1) [] 0) (rowV pv (blocks (swapS s i (Int.ofNat (2 * i + 2)).toNat)))) 110), some (AO.any (famHP 57 (fam 0 ((s.xs.set i (at' s (Int.ofNat (2 * i + 2)).toNat)).set (Int.ofNat (2 * i + 2)).toNat (at' s i))))), some (AO.map (mE ptrV s.m) s.ck)] 1100 (((Cnd.p (Wk (AV.v (Value.int IntKind.i64 (IntKind.i64.wrap (IntKind.i64.wrap (Int.ofNat 2 * Int.ofNat i) + Int.ofNat 1)))) (AV.v (Value.int IntKind.i64 (Int.ofNat (2 * i + 1)))))).a Cnd.t).a (((Cnd.p (Wk (AV.v (Value.int IntKind.i64 (IntKind.i64.wrap (Int.ofNat (2 * i + 1) + Int.ofNat 1)))) (AV.v (Value.int IntKind.i64 (Int.ofNat (2 * i + 2)))))).a Cnd.t).a (((Cnd.p (true = true)).a ((Cnd.p ((Int.ofNat (2 * i + 2)).toNat ≠ (Int.ofNat (2 * i + 1)).toNat ∧ (Int.ofNat (2 * i + 2)).toNat < s.xs.length ∧ (Int.ofNat (2 * i + 1)).toNat < s.xs.length)).a ((Cnd.p (VW [AV.slice 1 0 s.xs.length 1 (Cp.lo (roomOf s)), AV.v (Value.int IntKind.i64 (Int.ofNat (2 * i + 2))), AV.v (Value.int IntKind.i64 (Int.ofNat (2 * i + 1)))] [AV.slice 1 0 s.xs.length 1 (Cp.lo (roomOf s)), AV.v (Value.int IntKind.i64 (Int.ofNat (Int.ofNat (2 * i + 2)).toNat)), AV.v (Value.int IntKind.i64 (Int.ofNat (Int.ofNat (2 * i + 1)).toNat))])).a ((Cnd.p (OW (AO.cells (rowV pv (blocks s)) 110) (AO.cells (AV.rens (nmR 1) (rowV pv (blocks s))) 110))).a ((Cnd.p (OW (AO.any (famHP 57 (fam 0 s.xs))) (AO.any (famHP 57 (fam 0 s.xs))))).a Cnd.t))))).a (((Cnd.p (true = true)).a ((Cnd.p ((Int.ofNat (2 * i + 2)).toNat ≠ i ∧ (Int.ofNat (2 * i + 2)).toNat < s.xs.length ∧ i < s.xs.length)).a ((Cnd.p (VW [AV.slice 1 0 s.xs.length 1 (Cp.lo (roomOf s)), AV.v (Value.int IntKind.i64 (Int.ofNat (2 * i + 2))), AV.v (Value.int IntKind.i64 (Int.ofNat i))] [AV.slice 1 0 s.xs.length 1 (Cp.lo (roomOf s)), AV.v (Value.int IntKind.i64 (Int.ofNat (Int.ofNat (2 * i + 2)).toNat)), AV.v (Value.int IntKind.i64 (Int.ofNat i))])).a ((Cnd.p (OW (AO.cells (AV.rens (sgN (nmR 1) [] 0) (rowV pv (blocks s))) 110) (AO.cells (AV.rens (nmR 1) (rowV pv (blocks s))) 110))).a ((Cnd.p (OW (AO.any (famHP 57 (fam 0 s.xs))) (AO.any (famHP 57 (fam 0 s.xs))))).a Cnd.t))))).a (((Cnd.p (true = true)).a ((Cnd.p (i < s.xs.length ∧ (Int.ofNat (2 * i + 2)).toNat < s.xs.length)).a ((Cnd.p (VW [AV.slice 1 0 s.xs.length 1 (Cp.lo (roomOf s)), AV.v (Value.int IntKind.i64 (Int.ofNat i)), AV.v (Value.int IntKind.i64 (Int.ofNat (2 * i + 2)))] [AV.slice 1 0 s.xs.length 1 (Cp.lo (roomOf s)), AV.v (Value.int IntKind.i64 (Int.ofNat i)), AV.v (Value.int IntKind.i64 (Int.ofNat (Int.ofNat (2 * i + 2)).toNat))])).a ((Cnd.p (OW (AO.cells (AV.rens (sgN (nmR 1) [] 0) (rowV pv (blocks s))) 110) (AO.cells (AV.rens (nmR 1) (rowV pv (blocks s))) 110))).a ((Cnd.p (OW (AO.any (famHP 57 (fam 0 s.xs))) (AO.any (famHP 57 (fam 0 s.xs))))).a Cnd.t))))).a Cnd.t))))))) (VT.ite (!ahead (at' s (Int.ofNat (2 * i + 1)).toNat) (at' s i)) (VT.leaf (AX.exit 0, [AV.iface 59 (AV.ptr 0 0), AV.v (Value.int IntKind.i64 (Int.ofNat i0)), AV.v (Value.int IntKind.i64 (Int.ofNat n)), AV.v (Value.int IntKind.i64 (Int.ofNat i))], 48) [some (AO.cells [AV.slice 1 0 s.xs.length 1 (Cp.lo (roomOf s)), AV.map 3, AV.v (Value.int IntKind.i64 s.tn)] 108), some (AO.cells (AV.rens (sgN (nmR 1) [] 0) (rowV pv (blocks s))) 110), some (AO.any (famHP 57 (fam 0 s.xs))), some (AO.map (mE ptrV s.m) s.ck)] 1100 (((Cnd.p (Wk (AV.v (Value.int IntKind.i64 (IntKind.i64.wrap (IntKind.i64.wrap (Int.ofNat 2 * Int.ofNat i) + Int.ofNat 1)))) (AV.v (Value.int IntKind.i64 (Int.ofNat (2 * i + 1)))))).a Cnd.t).a (((Cnd.p (Wk (AV.v (Value.int IntKind.i64 (IntKind.i64.wrap (Int.ofNat (2 * i + 1) + Int.ofNat 1)))) (AV.v (Value.int IntKind.i64 (Int.ofNat (2 * i + 2)))))).a Cnd.t).a (((Cnd.p (true = true)).a ((Cnd.p ((Int.ofNat (2 * i + 2)).toNat ≠ (Int.ofNat (2 * i + 1)).toNat ∧ (Int.ofNat (2 * i + 2)).toNat < s.xs.length ∧ (Int.ofNat (2 * i + 1)).toNat < s.xs.length)).a ((Cnd.p (VW [AV.slice 1 0 s.xs.length 1 (Cp.lo (roomOf s)), AV.v (Value.int IntKind.i64 (Int.ofNat (2 * i + 2))), AV.v (Value.int IntKind.i64 (Int.ofNat (2 * i + 1)))] [AV.slice 1 0 s.xs.length 1 (Cp.lo (roomOf s)), AV.v (Value.int IntKind.i64 (Int.ofNat (Int.ofNat (2 * i + 2)).toNat)), AV.v (Value.int IntKind.i64 (Int.ofNat (Int.ofNat (2 * i + 1)).toNat))])).a ((Cnd.p (OW (AO.cells (rowV pv (blocks s)) 110) (AO.cells (AV.rens (nmR 1) (rowV pv (blocks s))) 110))).a ((Cnd.p (OW (AO.any (famHP 57 (fam 0 s.xs))) (AO.any (famHP 57 (fam 0 s.xs))))).a Cnd.t))))).a (((Cnd.p (true = true)).a ((Cnd.p ((Int.ofNat (2 * i + 1)).toNat ≠ i ∧ (Int.ofNat (2 * i + 1)).toNat < s.xs.length ∧ i < s.xs.length)).a ((Cnd.p (VW [AV.slice 1 0 s.xs.length 1 (Cp.lo (roomOf s)), AV.v (Value.int IntKind.i64 (Int.ofNat (2 * i + 1))), AV.v (Value.int IntKind.i64 (Int.ofNat i))] [AV.slice 1 0 s.xs.length 1 (Cp.lo (roomOf s)), AV.v (Value.int IntKind.i64 (Int.ofNat (Int.ofNat (2 * i + 1)).toNat)), AV.v (Value.int IntKind.i64 (Int.ofNat i))])).a ((Cnd.p (OW (AO.cells (AV.rens (sgN (nmR 1) [] 0) (rowV pv (blocks s))) 110) (AO.cells (AV.rens (nmR 1) (rowV pv (blocks s))) 110))).a ((Cnd.p (OW (AO.any (famHP 57 (fam 0 s.xs))) (AO.any (famHP 57 (fam 0 s.xs))))).a Cnd.t))))).a Cnd.t))))) (VT.leaf (AX.normal, [AV.iface 59 (AV.ptr 0 0), AV.v (Value.int IntKind.i64 (Int.ofNat i0)), AV.v (Value.int IntKind.i64 (Int.ofNat n)), AV.v (Value.int IntKind.i64 (Int.ofNat (2 * i + 1)))], 48) [some (AO.cells [AV.slice 1 0 s.xs.length 1 (Cp.lo (roomOf s)), AV.map 3, AV.v (Value.int IntKind.i64 s.tn)] 108), some (AO.cells (AV.rens (sgN (nmR 1) [] 0) (rowV pv (blocks (swapS s i (Int.ofNat (2 * i + 1)).toNat)))) 110), some (AO.any (famHP 57 (fam 0 ((s.xs.set i (at' s (Int.ofNat (2 * i + 1)).toNat)).set (Int.ofNat (2 * i + 1)).toNat (at' s i))))), some (AO.map (mE ptrV s.m) s.ck)] 1100 (((Cnd.p (Wk (AV.v (Value.int IntKind.i64 (IntKind.i64.wrap (IntKind.i64.wrap (Int.ofNat 2 * Int.ofNat i) + Int.ofNat 1)))) (AV.v (Value.int IntKind.i64 (Int.ofNat (2 * i + 1)))))).a Cnd.t).a (((Cnd.p (Wk (AV.v (Value.int IntKind.i64 (IntKind.i64.wrap (Int.ofNat (2 * i + 1) + Int.ofNat 1)))) (AV.v (Value.int IntKind.i64 (Int.ofNat (2 * i + 2)))))).a Cnd.t).a (((Cnd.p (true = true)).a ((Cnd.p ((Int.ofNat (2 * i + 2)).toNat ≠ (Int.ofNat (2 * i + 1)).toNat ∧ (Int.ofNat (2 * i + 2)).toNat < s.xs.length ∧ (Int.ofNat (2 * i + 1)).toNat < s.xs.length)).a ((Cnd.p (VW [AV.slice 1 0 s.xs.length 1 (Cp.lo (roomOf s)), AV.v (Value.int IntKind.i64 (Int.ofNat (2 * i + 2))), AV.v (Value.int IntKind.i64 (Int.ofNat (2 * i + 1)))] [AV.slice 1 0 s.xs.length 1 (Cp.lo (roomOf s)), AV.v (Value.int IntKind.i64 (Int.ofNat (Int.ofNat (2 * i + 2)).toNat)), AV.v (Value.int IntKind.i64 (Int.ofNat (Int.ofNat (2 * i + 1)).toNat))])).a ((Cnd.p (OW (AO.cells (rowV pv (blocks s)) 110) (AO.cells (AV.rens (nmR 1) (rowV pv (blocks s))) 110))).a ((Cnd.p (OW (AO.any (famHP 57 (fam 0 s.xs))) (AO.any (famHP 57 (fam 0 s.xs))))).a Cnd.t))))).a (((Cnd.p (true = true)).a ((Cnd.p ((Int.ofNat (2 * i + 1)).toNat ≠ i ∧ (Int.ofNat (2 * i + 1)).toNat < s.xs.length ∧ i < s.xs.length)).a ((Cnd.p (VW [AV.slice 1 0 s.xs.length 1 (Cp.lo (roomOf s)), AV.v (Value.int IntKind.i64 (Int.ofNat (2 * i + 1))), AV.v (Value.int IntKind.i64 (Int.ofNat i))] [AV.slice 1 0 s.xs.length 1 (Cp.lo (roomOf s)), AV.v (Value.int IntKind.i64 (Int.ofNat (Int.ofNat (2 * i + 1)).toNat)), AV.v (Value.int IntKind.i64 (Int.ofNat i))])).a ((Cnd.p (OW (AO.cells (AV.rens (sgN (nmR 1) [] 0) (rowV pv (blocks s))) 110) (AO.cells (AV.rens (nmR 1) (rowV pv (blocks s))) 110))).a ((Cnd.p (OW (AO.any (famHP 57 (fam 0 s.xs))) (AO.any (famHP 57 (fam 0 s.xs))))).a Cnd.t))))).a (((Cnd.p (true = true)).a ((Cnd.p (i < s.xs.length ∧ (Int.ofNat (2 * i + 1)).toNat < s.xs.length)).a ((Cnd.p (VW [AV.slice 1 0 s.xs.length 1 (Cp.lo (roomOf s)), AV.v (Value.int IntKind.i64 (Int.ofNat i)), AV.v (Value.int IntKind.i64 (Int.ofNat (2 * i + 1)))] [AV.slice 1 0 s.xs.length 1 (Cp.lo (roomOf s)), AV.v (Value.int IntKind.i64 (Int.ofNat i)), AV.v (Value.int IntKind.i64 (Int.ofNat (Int.ofNat (2 * i + 1)).toNat))])).a ((Cnd.p (OW (AO.cells (AV.rens (sgN (nmR 1) [] 0) (rowV pv (blocks s))) 110) (AO.cells (AV.rens (nmR 1) (rowV pv (blocks s))) 110))).a ((Cnd.p (OW (AO.any (famHP 57 (fam 0 s.xs))) (AO.any (famHP 57 (fam 0 s.xs))))).a Cnd.t))))).a Cnd.t)))))))) (VT.ite (!ahead (at' s (Int.ofNat (2 * i + 1)).toNat) (at' s i)) (VT.leaf (AX.exit 0, [AV.iface 59 (AV.ptr 0 0), AV.v (Value.int IntKind.i64 (Int.ofNat i0)), AV.v (Value.int IntKind.i64 (Int.ofNat n)), AV.v (Value.int IntKind.i64 (Int.ofNat i))], 48) [some (AO.cells [AV.slice 1 0 s.xs.length 1 (Cp.lo (roomOf s)), AV.map 3, AV.v (Value.int IntKind.i64 s.tn)] 108), some (AO.cells (AV.rens (sgN (nmR 1) [] 0) (rowV pv (blocks s))) 110), some (AO.any (famHP 57 (fam 0 s.xs))), some (AO.map (mE ptrV s.m) s.ck)] 1100 (((Cnd.p (Wk (AV.v (Value.int IntKind.i64 (IntKind.i64.wrap (IntKind.i64.wrap (Int.ofNat 2 * Int.ofNat i) + Int.ofNat 1)))) (AV.v (Value.int IntKind.i64 (Int.ofNat (2 * i + 1)))))).a Cnd.t).a (((Cnd.p (Wk (AV.v (Value.int IntKind.i64 (IntKind.i64.wrap (Int.ofNat (2 * i + 1) + Int.ofNat 1)))) (AV.v (Value.int IntKind.i64 (Int.ofNat (2 * i + 2)))))).a Cnd.t).a (((Cnd.p (true = true)).a ((Cnd.p ((Int.ofNat (2 * i + 1)).toNat ≠ i ∧ (Int.ofNat (2 * i + 1)).toNat < s.xs.length ∧ i < s.xs.length)).a ((Cnd.p (VW [AV.slice 1 0 s.xs.length 1 (Cp.lo (roomOf s)), AV.v (Value.int IntKind.i64 (Int.ofNat (2 * i + 1))), AV.v (Value.int IntKind.i64 (Int.ofNat i))] [AV.slice 1 0 s.xs.length 1 (Cp.lo (roomOf s)), AV.v (Value.int IntKind.i64 (Int.ofNat (Int.ofNat (2 * i + 1)).toNat)), AV.v (Value.int IntKind.i64 (Int.ofNat i))])).a ((Cnd.p (OW (AO.cells (rowV pv (blocks s)) 110) (AO.cells (AV.rens (nmR 1) (rowV pv (blocks s))) 110))).a ((Cnd.p (OW (AO.any (famHP 57 (fam 0 s.xs))) (AO.any (famHP 57 (fam 0 s.xs))))).a Cnd.t))))).a Cnd.t)))) (VT.leaf (AX.normal, [AV.iface 59 (AV.ptr 0 0), AV.v (Value.int IntKind.i64 (Int.ofNat i0)), AV.v (Value.int IntKind.i64 (Int.ofNat n)), AV.v (Value.int IntKind.i64 (Int.ofNat (2 * i + 1)))], 48) [some (AO.cells [AV.slice 1 0 s.xs.length 1 (Cp.lo (roomOf s)), AV.map 3, AV.v (Value.int IntKind.i64 s.tn)] 108), some (AO.cells (AV.rens (sgN (nmR 1) [] 0) (rowV pv (blocks (swapS s i (Int.ofNat (2 * i + 1)).toNat)))) 110), some (AO.any (famHP 57 (fam 0 ((s.xs.set i (at' s (Int.ofNat (2 * i + 1)).toNat)).set (Int.ofNat (2 * i + 1)).toNat (at' s i))))), some (AO.map (mE ptrV s.m) s.ck)] 1100 (((Cnd.p (Wk (AV.v (Value.int IntKind.i64 (IntKind.i64.wrap (IntKind.i64.wrap (Int.ofNat 2 * Int.ofNat i) + Int.ofNat 1)))) (AV.v (Value.int IntKind.i64 (Int.ofNat (2 * i + 1)))))).a Cnd.t).a (((Cnd.p (Wk (AV.v (Value.int IntKind.i64 (IntKind.i64.wrap (Int.ofNat (2 * i + 1) + Int.ofNat 1)))) (AV.v (Value.int IntKind.i64 (Int.ofNat (2 * i + 2)))))).a Cnd.t).a (((Cnd.p (true = true)).a ((Cnd.p ((Int.ofNat (2 * i + 1)).toNat ≠ i ∧ (Int.ofNat (2 * i + 1)).toNat < s.xs.length ∧ i < s.xs.length)).a ((Cnd.p (VW [AV.slice 1 0 s.xs.length 1 (Cp.lo (roomOf s)), AV.v (Value.int IntKind.i64 (Int.ofNat (2 * i + 1))), AV.v (Value.int IntKind.i64 (Int.ofNat i))] [AV.slice 1 0 s.xs.length 1 (Cp.lo (roomOf s)), AV.v (Value.int IntKind.i64 (Int.ofNat (Int.ofNat (2 * i + 1)).toNat)), AV.v (Value.int IntKind.i64 (Int.ofNat i))])).a ((Cnd.p (OW (AO.cells (rowV pv (blocks s)) 110) (AO.cells (AV.rens (nmR 1) (rowV pv (blocks s))) 110))).a ((Cnd.p (OW (AO.any (famHP 57 (fam 0 s.xs))) (AO.any (famHP 57 (fam 0 s.xs))))).a Cnd.t))))).a (((Cnd.p (true = true)).a ((Cnd.p (i < s.xs.length ∧ (Int.ofNat (2 * i + 1)).toNat < s.xs.length)).a ((Cnd.p (VW [AV.slice 1 0 s.xs.length 1 (Cp.lo (roomOf s)), AV.v (Value.int IntKind.i64 (Int.ofNat i)), AV.v (Value.int IntKind.i64 (Int.ofNat (2 * i + 1)))] [AV.slice 1 0 s.xs.length 1 (Cp.lo (roomOf s)), AV.v (Value.int IntKind.i64 (Int.ofNat i)), AV.v (Value.int IntKind.i64 (Int.ofNat (Int.ofNat (2 * i + 1)).toNat))])).a ((Cnd.p (OW (AO.cells (AV.rens (sgN (nmR 1) [] 0) (rowV pv (blocks s))) 110) (AO.cells (AV.rens (nmR 1) (rowV pv (blocks s))) 110))).a ((Cnd.p (OW (AO.any (famHP 57 (fam 0 s.xs))) (AO.any (famHP 57 (fam 0 s.xs))))).a Cnd.t))))).a Cnd.t)))))))) := by kernel_rfl
def downJ (s : Ps) (i n : Nat) : Nat := if 2 * i + 2 < n ∧ ahead (at' s (2 * i + 2)) (at' s (2 * i + 1)) = true then 2 * i + 2 else 2 * i + 1
theorem downJ_gt (s : Ps) (i n : Nat) : i < downJ s i n := by unfold downJ; split <;> omega
def downS (s : Ps) (i n : Nat) : Ps × Nat := if h : n ≤ 2 * i + 1 then (s, i) else if ahead (at' s (downJ s i n)) (at' s i) = true then downS (swapS s i (downJ s i n)) (downJ s i n) n else (s, i)
  termination_by n - i
  decreasing_by have := downJ_gt s i n; omega
end
end Go.Proofs.Ytojfbgmeaadanaa.Alm

/- Alarms: Pop, Push; the pile's methods as contracts. -/
set_option linter.unusedVariables false
set_option linter.unusedSimpArgs false
set_option maxRecDepth 100000
namespace Go.Proofs.Ytojfbgmeaadanaa.Alm
open Go Go.RowKit Go.Proofs.Ytojfbgmeaadanaa.Eng Go.Proofs.Ytojfbgmeaadanaa.Kit
theorem swap_self (s : Ps) (i : Nat) (hi : i < s.xs.length) : swapS s i i = s := by
  have e : s.xs[i]? = some (at' s i) := by rw [at', List.getD, List.getElem?_eq_getElem hi]; rfl
  simp only [swapS]
  rw [set_self s.xs i _ e, set_self s.xs i _ e]
theorem swap_triA (s : Ps) (c i j : Nat) (hi : i < s.xs.length) (hj : j < s.xs.length) : Tri Try.prog default fSwap [slR 1 s.xs.length c, iv (Int.ofNat i), iv (Int.ofNat j)] (rfL s) (.tuple []) (rfL (swapS s i j)) := by
  by_cases h : i = j
  · subst h
    rw [swap_self s i hi]
    exact swap1_tri s c i hi
  · exact swap_tri s c i j h hi hj
theorem gTwo_ro : ∀ args, RO (gTwo args) := by
  intro args
  unfold gTwo
  repeat' split
  all_goals first | exact RO.ret _ | exact RO.fail _
theorem gLen_ro : ∀ args, RO (gLen args) := by
  intro args
  unfold gLen
  repeat' split
  all_goals first | exact RO.ret _ | exact RO.fail _
theorem gHead_ro : ∀ args, RO (gHead args) := by
  intro args
  unfold gHead
  repeat' split
  all_goals first
    | exact RO.fail _
    | (refine RO.read _ _ fun o => ?_
       repeat' split
       all_goals first | exact RO.ret _ | exact RO.fail _)
theorem rfL_cl (K : Nat → Bool) (s : Ps) : ∀ x ∈ rfL s, x.2.cl K := all_cons (cls_rowV _ _) (all_cons trivial all_nil)
theorem cLess_ok (s : Ps) (F : HP) : C1OK Try.prog F fLess (cLess s) :=
  mkC_ok (W := default) oldDef (fun p => .v (.bool (ahead (at' s p.2.1) (at' s p.2.2)))) gTwo_ro (fun _ => rfl) (fun p hp => less_tri s _ _ _ hp.1 hp.2.1 hp.2.2)
    fun p => ⟨rfl, rfl, ⟨rfl, trivial, trivial, trivial⟩, rfL_cl _ s, ⟨trivial, trivial⟩, rfL_cl _ s⟩
theorem cSwap_ok (s : Ps) (F : HP) : C1OK Try.prog F fSwap (cSwap s) :=
  mkC_ok (W := default) oldDef (fun _ => .tuple []) gTwo_ro (fun _ => rfl) (fun p hp => swap_triA s _ _ _ hp.1 hp.2)
    fun p => ⟨rfl, rfl, ⟨rfl, trivial, trivial, trivial⟩, rfL_cl _ s, ⟨trivial, trivial⟩, rfL_cl _ _⟩
theorem lenR_tri (s : Ps) : Tri Try.prog default fLen [slR 1 s.xs.length (roomOf s)] (rfL s) (iv (Int.ofNat s.xs.length)) (rfL s) := by
  refine tri_run (con := []) (hints := noHints) (lc := []) [1, 2] rfl (fun _ _ => noC) (fun _ _ => noL) fun F => ?_
  have e := oLenR_eq s F
  exact cast (congrArg (VAll _) e.symm) ⟨⟨trivial, (fit_mk (vs := [iv (Int.ofNat s.xs.length)]) (vs' := [iv (Int.ofNat s.xs.length)]) (H' := rfL s) [] rfl rfl (VW.refl _) ⟨⟨_, rfl, OW.of_eq (calm_row _ _).symm⟩, ⟨_, rfl, OW.refl _⟩, trivial⟩).fits rfl⟩⟩
theorem cLen_ok (s : Ps) (F : HP) : C1OK Try.prog F fLen (cLen s) :=
  mkC_ok (W := default) oldDef (fun p => iv (Int.ofNat s.xs.length)) gLen_ro (fun _ => rfl) (fun p _ => lenR_tri s)
    fun p => ⟨rfl, rfl, ⟨rfl, trivial⟩, rfL_cl _ s, ⟨trivial, trivial⟩, rfL_cl _ s⟩
/-! Pop. -/
theorem map_clE (K : Nat → Bool) : ∀ m : IMap Nat, clE K (mE ptrV m)
  | [] => trivial
  | e :: m => ⟨trivial, trivial, map_clE K m⟩
theorem map_ren (s : Ps) (σ : Nat → Nat) : (mapO s).ren σ = mapO s := by
  have : ∀ m : IMap Nat, renE σ (mE ptrV m) = mE ptrV m := by
    intro m
    induction m with
    | nil => rfl
    | cons e m ih =>
      show renE σ ((.v (.int .i64 e.1), ptrV e.2.1, e.2.2) :: mE ptrV m) = _
      rw [renE, ih]; rfl
  show AO.map (renE σ (mE ptrV s.m)) s.ck = _
  rw [this]
  rfl
theorem uL_cl (K : Nat → Bool) (hK : K 1 = true ∧ K 3 = true) (s : Ps) : ∀ x ∈ uL s, x.2.cl K := all_cons ⟨hK.1, hK.2, trivial, trivial⟩ (all_cons (cls_rowV _ _) (all_cons trivial (all_cons (map_clE _ _) all_nil)))
theorem pop_blocks (s : Ps) (h0 : 0 < s.xs.length) : blocks (popS s) = blocks s := by
  have hne : s.xs ≠ [] := fun e => by rw [e] at h0; cases h0
  have hl : lastOf s = s.xs.getLast hne := by
    rw [lastOf, at', List.getD, List.getElem?_eq_getElem (by omega), List.getLast_eq_getElem]; rfl
  have hs := List.dropLast_concat_getLast hne
  show s.xs.dropLast.map (·.k) ++ ((lastOf s).k :: s.g) = s.xs.map (·.k) ++ s.g
  rw [hl]
  conv => rhs; rw [← hs]
  simp
theorem pop_len (s : Ps) : (popS s).xs.length = s.xs.length - 1 := by simp [popS]
theorem pop_room (s : Ps) (h0 : 0 < s.xs.length) : roomOf (popS s) = roomOf s := by
  simp only [roomOf, pop_len]
  simp only [popS, List.length_cons]
  omega
theorem fam_append : ∀ (k : Nat) (l r : List It), fam k (l ++ r) = fam k l ++ fam (k + l.length) r
  | k, [], r => by simp [fam]
  | k, x :: l, r => by
    rw [List.cons_append, fam, fam_append (k + 1) l r, fam, List.cons_append, List.length_cons]
    congr 3
    omega
theorem pop_fam (s : Ps) (h0 : 0 < s.xs.length) : (fam 0 s.xs).Perm (((lastOf s).k, alC (lastOf s) (s.xs.length - 1)) :: fam 0 (popS s).xs) := by
  have hne : s.xs ≠ [] := fun e => by rw [e] at h0; cases h0
  have hl : lastOf s = s.xs.getLast hne := by
    rw [lastOf, at', List.getD, List.getElem?_eq_getElem (by omega), List.getLast_eq_getElem]; rfl
  have hs := List.dropLast_concat_getLast hne
  rw [hl]
  have e : fam 0 s.xs = fam 0 s.xs.dropLast ++ [((s.xs.getLast hne).k, alC (s.xs.getLast hne) (s.xs.length - 1))] := by
    conv => lhs; rw [← hs]
    rw [fam_append, fam, fam, List.length_dropLast, Nat.zero_add]
  rw [e]
  exact List.perm_append_comm
/-- Some objects beside a family in another order. -/
theorem goes_permU (vs : List AV) (o0 o3 : AO) (R : List Nat) {F1 F2 : List (Nat × List Value)} (h0 : o0.ren id = o0) (h3 : o3.ren id = o3) (hp : F1.Perm F2) : Goes vs [(0, o0), (1, rowO R), (2, famO F1), (3, o3)] vs [(0, o0), (1, rowO R), (2, famO F2), (3, o3)] := by
  intro W0 F N ys w ⟨N', a1, a2, r, a3⟩
  refine ⟨N', a1, fun n hn hg => a2 n hn ?_, r.pull (σ := id) rfl rfl fun x hx => ?_, a3⟩
  · simp only [getO] at hg ⊢
    split at hg
    · cases hg
    · rename_i e0
      split at hg
      · cases hg
      · rename_i e1
        split at hg
        · cases hg
        · rename_i e2
          split at hg
          · cases hg
          · rename_i e3; rw [if_neg e0, if_neg e1, if_neg e2, if_neg e3]
  · simp only [List.mem_cons, List.not_mem_nil, or_false] at hx
    rcases hx with rfl | rfl | rfl | rfl
    · exact ⟨_, by rw [find_heapOf (by kernel_rfl)]; rfl, OW.of_eq h0.symm⟩
    · exact ⟨_, by rw [find_heapOf (by kernel_rfl)]; rfl, OW.of_eq (calm_row R _).symm⟩
    · exact ⟨_, by rw [find_heapOf (by kernel_rfl)]; rfl, ow_fam hp⟩
    · exact ⟨_, by rw [find_heapOf (by kernel_rfl)]; rfl, OW.of_eq h3.symm⟩
theorem pop_tri (s : Ps) (h0 : 0 < s.xs.length) (hb : s.xs.length ≤ 9223372036854775807) : Tri Try.prog default fPop [.ptr 0 0] (uL s) alP (uL (popS s) ++ outL (lastOf s) (s.xs.length - 1)) := by
  have g1 : Goes [AV.ptr 0 0] (uL s) [AV.ptr 0 0] [(0, hdr 1 3 s.xs.length (roomOf s) s.tn), (1, rowO (blocks s)), (2, famO (((lastOf s).k, alC (lastOf s) (s.xs.length - 1)) :: fam 0 (popS s).xs)), (3, mapO s)] := goes_permU _ _ _ _ rfl (map_ren s id) (pop_fam s h0)
  have g2 : Goes [AV.ptr 0 0] [(0, hdr 1 3 s.xs.length (roomOf s) s.tn), (1, rowO (blocks s)), (2, famO (((lastOf s).k, alC (lastOf s) (s.xs.length - 1)) :: fam 0 (popS s).xs)), (3, mapO s)] [AV.ptr 0 0]
      [(0, hdr 1 3 s.xs.length (roomOf s) s.tn), (1, rowO (blocks s)), (2, famO (fam 0 (popS s).xs)), (3, mapO s), (1004, alO (lastOf s) (s.xs.length - 1)), (1005, .same 1004 (lastOf s).k)] :=
    goes_out (k := 2) (i := 1004) (j := 1005) (e := tAl) (b := (lastOf s).k) (c := alC (lastOf s) (s.xs.length - 1)) (l := fam 0 (popS s).xs) (by kernel_rfl) (by kernel_rfl) rfl rfl rfl rfl (by decide) rfl rfl (by decide)
      (fun n h1 h2 h3 => by simp only [getO, h1, h2, h3, if_false]) (fun _ _ _ _ h => h)
  refine Tri.pre (g1.trans g2) ?_
  refine tri_run (con := []) (hints := hPopF s.xs.length) (lc := []) [0, 1, 2, 3, 1004, 1005] rfl (fun _ _ => noC) (fun _ _ => noL) fun F => ?_
  have e := oPopF_eq (blocks s) s.xs.length (roomOf s) (lastOf s).k (lastOf s) (s.xs.length - 1) s.tn (famO (fam 0 (popS s).xs)) (mapO s) F
  have p1 : ∀ d, (rowV pv (blocks s)).getD (0 + (s.xs.length - 1) * 1) d = ptrV (lastOf s).k := fun d => row_ptr _ _ d _ (blocks_at s _ (by omega))
  have hwr : IntKind.i64.wrap (Int.ofNat s.xs.length - Int.ofNat 1) = Int.ofNat (s.xs.length - 1) := by
    rw [IntWalk.i64_in _ (by simp only [Int.ofNat_eq_natCast]; omega)]; simp only [Int.ofNat_eq_natCast]; omega
  refine cast (congrArg (VAll _) e.symm) ⟨⟨?_, (fit_mk (vs := [alP]) (vs' := [alP]) (H' := uL (popS s) ++ outL (lastOf s) (s.xs.length - 1)) [(1004, 1004), (1005, 1005)] (by kernel_rfl) (by kernel_rfl) (VW.refl _)
    ⟨⟨_, rfl, OW.of_eq ?_⟩, ⟨_, rfl, OW.of_eq ?_⟩, ⟨_, rfl, OW.refl _⟩, ⟨_, rfl, OW.of_eq (map_ren s _).symm⟩, ⟨_, rfl, OW.refl _⟩, ⟨_, rfl, OW.refl _⟩, trivial⟩).fits rfl⟩⟩
  · have l1 : 0 + (s.xs.length - 1) * 1 < s.xs.length + s.g.length := by omega
    have l2 : s.xs.length - 1 < s.xs.length := by omega
    have l3 : s.xs.length - 1 ≤ roomOf s := by simp only [roomOf]; omega
    simp only [Cnd.holds, p1, row_len1, blocks_len, l1, l2, l3, Nat.blt_eq, Nat.ble_eq, true_and, and_true, Nat.le_refl]
    and_intros
    all_goals first
      | exact Wk.refl _
      | exact wk_int hwr
      | exact trivial
  · show _ = (hdr 1 3 (popS s).xs.length (roomOf (popS s)) s.tn).ren _
    rw [pop_len, pop_room s h0]
    rfl
  · show _ = (rowO (blocks (popS s))).ren _
    rw [calm_row, pop_blocks s h0]
    rfl
theorem cPop_ok (s : Ps) (F : HP) : C1OK Try.prog F fPop (cPop s) :=
  mkC_ok (W := default) oldDef (fun _ => alP) gHead_ro (fun _ => rfl) (fun p hp => pop_tri s hp.1 hp.2)
    fun p => ⟨rfl, rfl, ⟨rfl, trivial⟩, uL_cl _ ⟨rfl, rfl⟩ s, ⟨rfl, trivial⟩, all_cons ⟨rfl, rfl, trivial, trivial⟩ (all_cons (cls_rowV _ _) (all_cons trivial (all_cons (map_clE _ _) (all_cons ⟨trivial, trivial, trivial, trivial, trivial⟩ (all_cons rfl all_nil)))))⟩
end Go.Proofs.Ytojfbgmeaadanaa.Alm

/- Alarms: up and down. -/
set_option linter.unusedVariables false
set_option linter.unusedSimpArgs false
set_option maxRecDepth 100000
namespace Go.Proofs.Ytojfbgmeaadanaa.Alm
open Go Go.RowKit Go.Proofs.Ytojfbgmeaadanaa.Eng Go.Proofs.Ytojfbgmeaadanaa.Kit
/-- Few enough. -/
def Big (s : Ps) : Prop := s.xs.length * 15 ≤ 140737488355328
theorem Big.le {s : Ps} (h : Big s) : s.xs.length ≤ 9382499223688 := by unfold Big at h; omega
theorem swap_big {s : Ps} (h : Big s) (i j : Nat) : Big (swapS s i j) := by unfold Big; rw [swap_len]; exact h
theorem swap_room (s : Ps) (i j : Nat) : roomOf (swapS s i j) = roomOf s := by simp only [roomOf, swap_len]; rfl
theorem uL_objs {s s' : Ps} {l : List AV} {F : List (Nat × List Value)} (hl : s'.xs.length = s.xs.length) (hr : roomOf s' = roomOf s) (ht : s'.tn = s.tn) (hR : l = rowV pv (blocks s')) (hF : F = fam 0 s'.xs) (hm : s'.m = s.m) (hc : s'.ck = s.ck) {m : AO} (hmo : m = mapO s) :
    ObjsOK [0, 1, 2, 3] [some (hdr 1 3 s.xs.length (roomOf s) s.tn), some (.cells l tPtr), some (famO F), some m] [] (uL s') := by
  refine ⟨⟨_, rfl, OW.of_eq ?_⟩, ⟨_, rfl, OW.of_eq ?_⟩, ⟨_, rfl, OW.of_eq ?_⟩, ⟨_, rfl, OW.of_eq ?_⟩, trivial⟩
  · show _ = (hdr 1 3 s'.xs.length (roomOf s') s'.tn).ren _
    rw [hl, hr, ht]; rfl
  · show _ = (rowO (blocks s')).ren _
    rw [calm_row, hR]; rfl
  · show _ = famO (fam 0 s'.xs)
    rw [hF]
  · show _ = (mapO s').ren _
    rw [map_ren, hmo, mapO, mapO, hm, hc]
theorem conLS {s : Ps} {F : HP} : ∀ x ∈ ([(fLess, cLess s), (fSwap, cSwap s)] : ConsL), C1OK Try.prog F x.1 x.2 := con_cons (cLess_ok s F) (con_cons (cSwap_ok s F) noC)
theorem up_wrap (j : Nat) (hj : j ≤ 9382499223688) : IntKind.i64.wrap ((IntKind.i64.wrap (Int.ofNat j - Int.ofNat 1)).tdiv (Int.ofNat 2)) = Int.ofNat ((j - 1) / 2) := by
  rw [IntWalk.i64_in (Int.ofNat j - Int.ofNat 1) (by simp only [Int.ofNat_eq_natCast]; omega)]
  cases j with
  | zero => rfl
  | succ j =>
    rw [IntWalk.i64_quo _ _ (by simp only [Int.ofNat_eq_natCast]; omega)]
    simp only [Int.ofNat_eq_natCast]; omega
theorem up_loop (s : Ps) (j : Nat) (hB : Big s) (hj : j < s.xs.length) : LTri Try.prog default (loopN fUp 0) (tms 0 23 (upA j)) (uL s) (.exit 0) (tms 0 23 []) (uL (upS s j)) := by
  obtain ⟨T, hT⟩ : ∃ T, upS s j = T := ⟨_, rfl⟩
  rw [hT]
  refine ltri_run (W := default) (g := fUp) (b := loopN fUp 0) (σ := {p : Ps × Nat // Big p.1 ∧ p.2 < p.1.xs.length ∧ upS p.1 p.2 = T}) 23 (fun p => upA p.1.2) (fun p => uL p.1.1) (.exit 0) [] (uL T) (fun p => p.1.2) [0, 1, 2, 3] [0, 1] (by intro h; cases h) (fun _ => rfl) rfl ?_ ⟨(s, j), hB, hj, hT⟩
  rintro ⟨⟨s1, k⟩, hB1, hk, he⟩
  refine ⟨[(fLess, cLess s1), (fSwap, cSwap s1)], hUp k, [], fun _ _ => conLS, fun _ _ => noL, fun F => ?_⟩
  have hB1 : Big s1 := hB1
  have hk : k < s1.xs.length := hk
  have he : upS s1 k = T := he
  have hle := hB1.le
  have hwr := up_wrap k (by omega)
  have h0 : (Int.ofNat ((k - 1) / 2) == Int.ofNat k) = decide (k = 0) := by
    simp only [Int.ofNat_eq_natCast]
    by_cases h : k = 0
    · subst h; rfl
    · simp only [h, decide_false]; apply beq_eq_false_iff_ne.2; omega
  have e1 : k ≠ 0 → (k - 1) / 2 < s1.xs.length := fun _ => by omega
  have e2 : k ≠ 0 → k ≠ (k - 1) / 2 := fun _ => by omega
  refine cast (congrArg (VAll _) (oUp_eq s1 k F).symm) ?_
  rw [h0]
  refine ⟨⟨fun h1 => ?_, fun h1 => ⟨fun h2 => ?_, fun h2 => ?_⟩⟩⟩
  · simp only [decide_eq_true_eq] at h1
    have e : s1 = T := by rw [← he, upS, dif_pos h1]
    subst e
    exact ⟨⟨⟨wk_int hwr, trivial⟩, trivial⟩, rfl, .inr ⟨rfl, [], rfl, rfl, trivial, uL_objs rfl rfl rfl rfl rfl rfl rfl rfl⟩⟩
  · simp only [decide_eq_false_iff_not] at h1
    have h2' : (!ahead (at' s1 k) (at' s1 ((k - 1) / 2))) = true := h2
    have e : s1 = T := by rw [← he, upS, dif_neg h1, if_neg (by simpa using h2')]
    subst e
    refine ⟨?_, rfl, .inr ⟨rfl, [], rfl, rfl, trivial, uL_objs rfl rfl rfl (rens_rowV ..) rfl rfl rfl rfl⟩⟩
    simp only [Cnd.holds, rens_rowV, true_and, and_true]
    and_intros
    all_goals first
      | exact wk_int hwr
      | exact VW.refl _
      | exact OW.refl _
      | exact e2 h1
      | exact hk
      | exact e1 h1
  · simp only [decide_eq_false_iff_not] at h1
    have h2' : (!ahead (at' s1 k) (at' s1 ((k - 1) / 2))) = false := h2
    have e : upS (swapS s1 ((k - 1) / 2) k) ((k - 1) / 2) = T := by
      rw [← he]
      conv => rhs; rw [upS, dif_neg h1, if_pos (by simpa using h2')]
    refine ⟨?_, rfl, .inl ⟨rfl, ⟨(swapS s1 ((k - 1) / 2) k, (k - 1) / 2), swap_big hB1 _ _, by rw [swap_len]; exact e1 h1, e⟩, ?_, [], rfl, rfl, ⟨Wk.refl _, Wk.refl _, trivial⟩, uL_objs (swap_len _ _ _) (swap_room _ _ _) rfl (rens_rowV ..) rfl rfl rfl rfl⟩⟩
    · simp only [Cnd.holds, rens_rowV, true_and, and_true]
      and_intros
      all_goals first
        | exact wk_int hwr
        | exact VW.refl _
        | exact OW.refl _
        | exact e2 h1
        | exact hk
        | exact e1 h1
    · show (k - 1) / 2 < k
      omega
theorem downJ_lt (s : Ps) (i n : Nat) (h : ¬ n ≤ 2 * i + 1) : downJ s i n < n := by unfold downJ; split <;> omega
theorem down_wrap1 (i : Nat) (hi : i ≤ 9382499223688) : IntKind.i64.wrap (IntKind.i64.wrap (Int.ofNat 2 * Int.ofNat i) + Int.ofNat 1) = Int.ofNat (2 * i + 1) := by
  rw [IntWalk.i64_in (Int.ofNat 2 * Int.ofNat i) (by simp only [Int.ofNat_eq_natCast]; omega), IntWalk.i64_in _ (by simp only [Int.ofNat_eq_natCast]; omega)]
  simp only [Int.ofNat_eq_natCast]; omega
theorem down_wrap2 (i : Nat) (hi : i ≤ 9382499223688) : IntKind.i64.wrap (Int.ofNat (2 * i + 1) + Int.ofNat 1) = Int.ofNat (2 * i + 2) := by
  rw [IntWalk.i64_in _ (by simp only [Int.ofNat_eq_natCast]; omega)]
  simp only [Int.ofNat_eq_natCast]; omega
theorem down_loop (s : Ps) (i0 n i : Nat) (hB : Big s) (hn : n ≤ s.xs.length) (hi : i ≤ s.xs.length) : LTri Try.prog default (loopN fDown 2) (tms 0 48 (downA i0 n i)) (uL s) (.exit 0) (tms 0 48 (downA i0 n (downS s i n).2)) (uL (downS s i n).1) := by
  obtain ⟨T, hT⟩ : ∃ T, downS s i n = T := ⟨_, rfl⟩
  rw [hT]
  refine ltri_run (W := default) (g := fDown) (b := loopN fDown 2) (σ := {p : Ps × Nat // Big p.1 ∧ n ≤ p.1.xs.length ∧ p.2 ≤ p.1.xs.length ∧ downS p.1 p.2 n = T}) 48 (fun p => downA i0 n p.1.2) (fun p => uL p.1.1) (.exit 0) (downA i0 n T.2) (uL T.1) (fun p => n - p.1.2) [0, 1, 2, 3] [0, 1, 2, 7] (by intro h; cases h) (fun _ => rfl) rfl ?_ ⟨(s, i), hB, hn, hi, hT⟩
  rintro ⟨⟨s, i⟩, hB, hn, hi, he⟩
  refine ⟨[(fLess, cLess s), (fSwap, cSwap s)], hDown i, [], fun _ _ => conLS, fun _ _ => noL, fun F => ?_⟩
  have hB : Big s := hB
  have hn : n ≤ s.xs.length := hn
  have hi : i ≤ s.xs.length := hi
  have he : downS s i n = T := he
  have hle := hB.le
  have hw1 := down_wrap1 i (by omega)
  have hw2 := down_wrap2 i (by omega)
  have stop : ∀ (os : List (Option AO)) (ts : List AV), downS s i n = (s, i) → TOK [0, 1, 2, 7] ts [] (downA i0 n i) → ObjsOK [0, 1, 2, 3] os [] (uL s) → ∃ l, FitT [0, 1, 2, 3] [0, 1, 2, 7] ts os (downA i0 n T.2) (uL T.1) l := by
    intro os ts e hv ho
    rw [he] at e
    subst e
    exact ⟨[], rfl, rfl, hv, ho⟩
  have goes : ∀ j, j < n → i < j → downS s i n = downS (swapS s i j) j n → ∀ (os : List (Option AO)) (ts : List AV), TOK [0, 1, 2, 7] ts [] (downA i0 n j) → ObjsOK [0, 1, 2, 3] os [] (uL (swapS s i j)) →
      ∃ s' : {p : Ps × Nat // Big p.1 ∧ n ≤ p.1.xs.length ∧ p.2 ≤ p.1.xs.length ∧ downS p.1 p.2 n = T}, n - s'.1.2 < n - i ∧ ∃ l, FitT [0, 1, 2, 3] [0, 1, 2, 7] ts os (downA i0 n s'.1.2) (uL s'.1.1) l := by
    intro j hj hij e os ts hv ho
    refine ⟨⟨(swapS s i j, j), swap_big hB _ _, by rw [swap_len]; exact hn, by rw [swap_len]; exact Nat.le_of_lt (Nat.lt_of_lt_of_le hj hn), e ▸ he⟩, ?_, [], rfl, rfl, hv, ho⟩
    show n - j < n - i; omega
  have big : ∀ h : ¬ n ≤ 2 * i + 1, downS s i n = if ahead (at' s (downJ s i n)) (at' s i) = true then downS (swapS s i (downJ s i n)) (downJ s i n) n else (s, i) := fun h => by conv => lhs; rw [downS, dif_neg h]
  have c1 : 2 * i + 1 < n → 2 * i + 1 < s.xs.length := fun h => by omega
  have c2 : 2 * i + 2 < n → 2 * i + 2 < s.xs.length := fun h => by omega
  have c0 : 2 * i + 1 < n → i < s.xs.length := fun h => by omega
  have n1 : 2 * i + 1 ≠ i := by omega
  have n2 : 2 * i + 2 ≠ i := by omega
  have n3 : 2 * i + 2 ≠ 2 * i + 1 := by omega
  have tk : ∀ i', TOK [0, 1, 2, 7] [hI, iv (Int.ofNat i0), iv (Int.ofNat n), iv (Int.ofNat i')] [] (downA i0 n i') := fun i' => ⟨Wk.refl _, Wk.refl _, Wk.refl _, Wk.refl _, trivial⟩
  have sw : ∀ j, ObjsOK [0, 1, 2, 3] [some (hdr 1 3 s.xs.length (roomOf s) s.tn), some (.cells (AV.rens (sgN (nmR 1) [] 0) (rowV pv (blocks (swapS s i j)))) tPtr), some (famO (fam 0 (swapS s i j).xs)), some (mapO s)] [] (uL (swapS s i j)) := fun j => uL_objs (swap_len _ _ _) (swap_room _ _ _) rfl (rens_rowV ..) rfl rfl rfl rfl
  have st : ∀ l, l = rowV pv (blocks s) → ObjsOK [0, 1, 2, 3] [some (hdr 1 3 s.xs.length (roomOf s) s.tn), some (.cells l tPtr), some (famO (fam 0 s.xs)), some (mapO s)] [] (uL s) := fun l hl => uL_objs rfl rfl rfl hl rfl rfl rfl rfl
  refine cast (congrArg (VAll _) (oDown_eq s i0 n i F).symm) ?_
  refine ⟨⟨fun h1 => ?_, fun h1 => ⟨(fun h => by cases h), fun _ => ⟨fun h2 => ⟨fun h3 => ⟨fun h4 => ?_, fun h4 => ?_⟩, fun h3 => ⟨fun h4 => ?_, fun h4 => ?_⟩⟩, fun h2 => ⟨fun h4 => ?_, fun h4 => ?_⟩⟩⟩⟩⟩
  · simp only [Int.ofNat_eq_natCast, decide_eq_true_eq] at h1
    exact ⟨⟨⟨wk_int hw1, trivial⟩, trivial⟩, rfl, .inr ⟨rfl, stop _ _ (by rw [downS, dif_pos (by omega)]) (tk i) (st _ rfl)⟩⟩
  all_goals simp only [Int.ofNat_eq_natCast, decide_eq_true_eq, decide_eq_false_iff_not] at h1 h2
  all_goals have hb := big (by omega)
  all_goals have k1 : 2 * i + 1 < n := by omega
  all_goals have h4' := h4
  all_goals simp only [Int.ofNat_eq_natCast, Int.toNat_natCast, Bool.not_eq_true', Bool.not_eq_false'] at h4'
  · have h3' : ahead (at' s (2 * i + 2)) (at' s (2 * i + 1)) = true := h3
    have k2 : 2 * i + 2 < n := by omega
    have hj : downJ s i n = 2 * i + 2 := by rw [downJ, if_pos ⟨k2, h3'⟩]
    rw [hj, h4'] at hb
    refine ⟨?_, rfl, .inr ⟨rfl, stop _ _ (by rw [hb]; rfl) (tk i) (st _ (rens_rowV ..))⟩⟩
    simp only [Cnd.holds, rens_rowV, true_and, and_true]
    and_intros
    all_goals first | exact wk_int hw1 | exact wk_int hw2 | exact VW.refl _ | exact OW.refl _ | exact n1 | exact n2 | exact n3 | exact c1 k1 | exact c0 k1 | exact c2 k2
  · have h3' : ahead (at' s (2 * i + 2)) (at' s (2 * i + 1)) = true := h3
    have k2 : 2 * i + 2 < n := by omega
    have hj : downJ s i n = 2 * i + 2 := by rw [downJ, if_pos ⟨k2, h3'⟩]
    rw [hj, h4', if_pos rfl] at hb
    refine ⟨?_, rfl, .inl ⟨rfl, goes (2 * i + 2) k2 (by omega) hb _ _ (tk _) (sw _)⟩⟩
    simp only [Cnd.holds, rens_rowV, true_and, and_true]
    and_intros
    all_goals first | exact wk_int hw1 | exact wk_int hw2 | exact VW.refl _ | exact OW.refl _ | exact n1 | exact n2 | exact n3 | exact c1 k1 | exact c0 k1 | exact c2 k2
  · have h3' : ahead (at' s (2 * i + 2)) (at' s (2 * i + 1)) = false := h3
    have k2 : 2 * i + 2 < n := by omega
    have hj : downJ s i n = 2 * i + 1 := by rw [downJ, if_neg (by rw [h3']; simp)]
    rw [hj, h4'] at hb
    refine ⟨?_, rfl, .inr ⟨rfl, stop _ _ (by rw [hb]; rfl) (tk i) (st _ (rens_rowV ..))⟩⟩
    simp only [Cnd.holds, rens_rowV, true_and, and_true]
    and_intros
    all_goals first | exact wk_int hw1 | exact wk_int hw2 | exact VW.refl _ | exact OW.refl _ | exact n1 | exact n2 | exact n3 | exact c1 k1 | exact c0 k1 | exact c2 k2
  · have h3' : ahead (at' s (2 * i + 2)) (at' s (2 * i + 1)) = false := h3
    have k2 : 2 * i + 2 < n := by omega
    have hj : downJ s i n = 2 * i + 1 := by rw [downJ, if_neg (by rw [h3']; simp)]
    rw [hj, h4', if_pos rfl] at hb
    refine ⟨?_, rfl, .inl ⟨rfl, goes (2 * i + 1) k1 (by omega) hb _ _ (tk _) (sw _)⟩⟩
    simp only [Cnd.holds, rens_rowV, true_and, and_true]
    and_intros
    all_goals first | exact wk_int hw1 | exact wk_int hw2 | exact VW.refl _ | exact OW.refl _ | exact n1 | exact n2 | exact n3 | exact c1 k1 | exact c0 k1 | exact c2 k2
  · have hj : downJ s i n = 2 * i + 1 := by rw [downJ, if_neg (by intro h; omega)]
    rw [hj, h4'] at hb
    refine ⟨?_, rfl, .inr ⟨rfl, stop _ _ (by rw [hb]; rfl) (tk i) (st _ (rens_rowV ..))⟩⟩
    simp only [Cnd.holds, rens_rowV, true_and, and_true]
    and_intros
    all_goals first | exact wk_int hw1 | exact wk_int hw2 | exact VW.refl _ | exact OW.refl _ | exact n1 | exact n2 | exact n3 | exact c1 k1 | exact c0 k1
  · have hj : downJ s i n = 2 * i + 1 := by rw [downJ, if_neg (by intro h; omega)]
    rw [hj, h4', if_pos rfl] at hb
    refine ⟨?_, rfl, .inl ⟨rfl, goes (2 * i + 1) k1 (by omega) hb _ _ (tk _) (sw _)⟩⟩
    simp only [Cnd.holds, rens_rowV, true_and, and_true]
    and_intros
    all_goals first | exact wk_int hw1 | exact wk_int hw2 | exact VW.refl _ | exact OW.refl _ | exact n1 | exact n2 | exact n3 | exact c1 k1 | exact c0 k1
end Go.Proofs.Ytojfbgmeaadanaa.Alm

/- Alarms: container/heap on a pile: runs. -/
set_option linter.unusedVariables false
set_option linter.unusedSimpArgs false
set_option maxRecDepth 100000
namespace Go.Proofs.Ytojfbgmeaadanaa.Alm
open Go Go.RowKit Go.Proofs.Ytojfbgmeaadanaa.Eng Go.Proofs.Ytojfbgmeaadanaa.Kit
noncomputable section
def hdr0 (m : Nat) (tn : Int) : AO := .cells [.v (.slice none 0 0), .map m, iv tn] tClk
/-- A clock whose row moves. -/
def uM (s : Ps) : LH := [(0, hdr 1001 1003 s.xs.length (roomOf s) s.tn), (1001, rowO (blocks s)), (1002, famO (fam 0 s.xs)), (1003, mapO s)]
/-- .. and one alarm beside it. -/
def pL (s : Ps) (x : It) (p : Nat) : LH := [(0, hdr 1001 1003 s.xs.length (roomOf s) s.tn), (1001, rowO (blocks s)), (1002, famO (fam 0 s.xs)), (1003, mapO s), (1004, alO x p), (1005, .same 1004 x.k)]
def pL0 (s : Ps) (x : It) (p : Nat) : LH := [(0, hdr0 1003 s.tn), (1003, mapO s), (1004, alO x p), (1005, .same 1004 x.k)]
def nmP (i r m a : Nat) : Nat → Nat := fun k => match Nat.beq k 0 with
  | true => i
  | false => match Nat.beq k 1003 with
    | true => m
    | false => match Nat.beq k 1001 with
      | true => r
      | false => match Nat.beq k 1002 with
        | true => r + 1
        | false => match Nat.beq k 1004 with
          | true => a
          | false => match Nat.beq k 1005 with
            | true => a + 1
            | false => k
def gPush : List AV → AP (Nat × Nat × Nat × Nat) := fun args => match args with
  | [.ptr i 0, .iface _ (.ptr a 0)] => .read i fun o => match o with
    | .cells (.slice r _ _ _ _ :: .map m :: _) _ => .ret (i, r, m, a)
    | .cells (_ :: .map m :: _) _ => .ret (i, m, m, a)
    | _ => .fail "push"
  | [.iface _ (.ptr i 0), .iface _ (.ptr a 0)] => .read i fun o => match o with
    | .cells (.slice r _ _ _ _ :: .map m :: _) _ => .ret (i, r, m, a)
    | .cells (_ :: .map m :: _) _ => .ret (i, m, m, a)
    | _ => .fail "push"
  | _ => .fail "push"
def cPush (s : Ps) (x : It) (p : Nat) : List AV → Option (AP AV) := mkC gPush (fun _ => Big s) (fun q => nmP q.1 q.2.1 q.2.2.1 q.2.2.2) (fun _ => [.ptr 0 0, alP]) (fun _ => pL s x p) (fun _ => .leaf .ret [.tuple []] (uM (pushS s x)))
def cPush0 (s : Ps) (x : It) (p : Nat) : List AV → Option (AP AV) := mkC gPush (fun _ => s.xs = []) (fun q => nmP q.1 q.2.1 q.2.2.1 q.2.2.2) (fun _ => [.ptr 0 0, alP]) (fun _ => pL0 s x p) (fun _ => .leaf .ret [.tuple []] (uM (pushS s x)))
def gUpL : List AV → AP (Nat × Nat × Nat × Nat) := fun tmps => match tmps with
  | .iface _ (.ptr i 0) :: .v (.int .i64 j) :: _ => .read i fun o => match o with
    | .cells (.slice r _ _ _ _ :: .map m :: _) _ => .ret (i, r, m, j.toNat)
    | _ => .fail "up"
  | _ => .fail "up"
def gDownL : List AV → AP (Nat × Nat × Nat × Nat × Nat × Nat) := fun tmps => match tmps with
  | .iface _ (.ptr q 0) :: .v (.int .i64 i0) :: .v (.int .i64 n) :: _ :: _ :: _ :: _ :: .v (.int .i64 i) :: _ => .read q fun o => match o with
    | .cells (.slice r _ _ _ _ :: .map m :: _) _ => .ret (q, r, m, i0.toNat, n.toNat, i.toNat)
    | _ => .fail "down"
  | _ => .fail "down"
def gDown : List AV → AP (Nat × Nat × Nat × Nat × Nat) := fun args => match args with
  | [.iface _ (.ptr q 0), .v (.int .i64 i), .v (.int .i64 n)] => .read q fun o => match o with
    | .cells (.slice r _ _ _ _ :: .map m :: _) _ => .ret (q, r, m, i.toNat, n.toNat)
    | _ => .fail "down"
  | _ => .fail "down"
def lUp (s : Ps) : List AV → AP (AX × List AV) := mkL gUpL (fun p => Big s ∧ p.2.2.2 < s.xs.length) (fun p => nmU p.1 p.2.1 p.2.2.1) (fun p => tms 0 23 (upA p.2.2.2)) (fun _ => uL s) (fun p => .leaf (.exit 0) (tms 0 23 []) (uL (upS s p.2.2.2)))
def lDown (s : Ps) : List AV → AP (AX × List AV) := mkL gDownL (fun p => Big s ∧ p.2.2.2.2.1 ≤ s.xs.length ∧ p.2.2.2.2.2 ≤ s.xs.length) (fun p => nmU p.1 p.2.1 p.2.2.1) (fun p => tms 0 48 (downA p.2.2.2.1 p.2.2.2.2.1 p.2.2.2.2.2)) (fun _ => uL s)
  (fun p => .leaf (.exit 0) (tms 0 48 (downA p.2.2.2.1 p.2.2.2.2.1 (downS s p.2.2.2.2.2 p.2.2.2.2.1).2)) (uL (downS s p.2.2.2.2.2 p.2.2.2.2.1).1))
theorem oUpF_eq (s : Ps) (j : Nat) (F : HP) : wRun [] noHints [(fUp, 0, loopN fUp 0, lUp s)] default fUp [hI, iv (Int.ofNat j)] (uL s) [0, 1, 2, 3] F = VT.leaf (AV.tuple []) [some (AO.cells [AV.slice 1 0 (upS s j).xs.length 1 (Cp.lo (roomOf (upS s j))), AV.map 3, AV.v (Value.int IntKind.i64 (upS s j).tn)] 108), some (AO.cells (AV.rens (sgN (nmU 0 1 3) [] 0) (rowV pv (blocks (upS s j)))) 110), some (AO.any (famHP 57 (fam 0 (upS s j).xs))), some (AO.map (renE (sgN (nmU 0 1 3) [] 0) (mE ptrV (upS s j).m)) (upS s j).ck)] 1100 ((Cnd.p ((fUp, 0, loopN fUp 0, lUp s).snd.snd.fst = (fUp, 0, loopN fUp 0, lUp s).snd.snd.fst)).a ((Cnd.p (Big s ∧ j < s.xs.length)).a ((Cnd.p (VW [AV.iface 59 (AV.ptr 0 0), AV.v (Value.int IntKind.i64 (Int.ofNat j)), AV.v (Value.tuple (Array.mk [])), AV.v (Value.tuple (Array.mk [])), AV.v (Value.tuple (Array.mk [])), AV.v (Value.tuple (Array.mk [])), AV.v (Value.tuple (Array.mk [])), AV.v (Value.tuple (Array.mk [])), AV.v (Value.tuple (Array.mk [])), AV.v (Value.tuple (Array.mk [])), AV.v (Value.tuple (Array.mk [])), AV.v (Value.tuple (Array.mk [])), AV.v (Value.tuple (Array.mk [])), AV.v (Value.tuple (Array.mk [])), AV.v (Value.tuple (Array.mk [])), AV.v (Value.tuple (Array.mk [])), AV.v (Value.tuple (Array.mk [])), AV.v (Value.tuple (Array.mk [])), AV.v (Value.tuple (Array.mk [])), AV.v (Value.tuple (Array.mk [])), AV.v (Value.tuple (Array.mk [])), AV.v (Value.tuple (Array.mk [])), AV.v (Value.tuple (Array.mk []))] [AV.iface 59 (AV.ptr 0 0), AV.v (Value.int IntKind.i64 (Int.ofNat j)), AV.any, AV.any, AV.any, AV.any, AV.any, AV.any, AV.any, AV.any, AV.any, AV.any, AV.any, AV.any, AV.any, AV.any, AV.any, AV.any, AV.any, AV.any, AV.any, AV.any, AV.any])).a ((Cnd.p (OW (AO.cells [AV.slice 1 0 s.xs.length 1 (Cp.lo (roomOf s)), AV.map 3, AV.v (Value.int IntKind.i64 s.tn)] 108) (AO.cells [AV.slice 1 0 s.xs.length 1 (Cp.lo (roomOf s)), AV.map 3, AV.v (Value.int IntKind.i64 s.tn)] 108))).a ((Cnd.p (OW (AO.cells (rowV pv (blocks s)) 110) (AO.cells (AV.rens (nmU 0 1 3) (rowV pv (blocks s))) 110))).a ((Cnd.p (OW (AO.any (famHP 57 (fam 0 s.xs))) (AO.any (famHP 57 (fam 0 s.xs))))).a ((Cnd.p (OW (AO.map (mE ptrV s.m) s.ck) (AO.map (renE (nmU 0 1 3) (mE ptrV s.m)) s.ck))).a Cnd.t))))))) := by kernel_rfl
theorem oDownF_eq (s : Ps) (i n : Nat) (F : HP) : wRun [] noHints [(fDown, 2, loopN fDown 2, lDown s)] default fDown [hI, iv (Int.ofNat i), iv (Int.ofNat n)] (uL s) [0, 1, 2, 3] F = VT.leaf (AV.v (Value.bool (decide (Int.ofNat (downS s i n).snd > Int.ofNat i)))) [some (AO.cells [AV.slice 1 0 (downS s i n).fst.xs.length 1 (Cp.lo (roomOf (downS s i n).fst)), AV.map 3, AV.v (Value.int IntKind.i64 (downS s i n).fst.tn)] 108), some (AO.cells (AV.rens (sgN (nmU 0 1 3) [] 0) (rowV pv (blocks (downS s i n).fst))) 110), some (AO.any (famHP 57 (fam 0 (downS s i n).fst.xs))), some (AO.map (renE (sgN (nmU 0 1 3) [] 0) (mE ptrV (downS s i n).fst.m)) (downS s i n).fst.ck)] 1100 ((Cnd.p ((fDown, 2, loopN fDown 2, lDown s).snd.snd.fst = (fDown, 2, loopN fDown 2, lDown s).snd.snd.fst)).a ((Cnd.p (Big s ∧ n ≤ s.xs.length ∧ i ≤ s.xs.length)).a ((Cnd.p (VW [AV.iface 59 (AV.ptr 0 0), AV.v (Value.int IntKind.i64 (Int.ofNat i)), AV.v (Value.int IntKind.i64 (Int.ofNat n)), AV.v (Value.tuple (Array.mk [])), AV.v (Value.tuple (Array.mk [])), AV.v (Value.tuple (Array.mk [])), AV.v (Value.bool false), AV.v (Value.int IntKind.i64 (Int.ofNat i)), AV.v (Value.tuple (Array.mk [])), AV.v (Value.tuple (Array.mk [])), AV.v (Value.tuple (Array.mk [])), AV.v (Value.int IntKind.i64 (Int.ofNat i)), AV.v (Value.tuple (Array.mk [])), AV.v (Value.tuple (Array.mk [])), AV.v (Value.tuple (Array.mk [])), AV.v (Value.tuple (Array.mk [])), AV.v (Value.tuple (Array.mk [])), AV.v (Value.tuple (Array.mk [])), AV.v (Value.tuple (Array.mk [])), AV.v (Value.tuple (Array.mk [])), AV.v (Value.tuple (Array.mk [])), AV.v (Value.tuple (Array.mk [])), AV.v (Value.tuple (Array.mk [])), AV.v (Value.tuple (Array.mk [])), AV.v (Value.tuple (Array.mk [])), AV.v (Value.tuple (Array.mk [])), AV.v (Value.tuple (Array.mk [])), AV.v (Value.tuple (Array.mk [])), AV.v (Value.tuple (Array.mk [])), AV.v (Value.tuple (Array.mk [])), AV.v (Value.tuple (Array.mk [])), AV.v (Value.tuple (Array.mk [])), AV.v (Value.tuple (Array.mk [])), AV.v (Value.tuple (Array.mk [])), AV.v (Value.tuple (Array.mk [])), AV.v (Value.tuple (Array.mk [])), AV.v (Value.tuple (Array.mk [])), AV.v (Value.tuple (Array.mk [])), AV.v (Value.tuple (Array.mk [])), AV.v (Value.tuple (Array.mk [])), AV.v (Value.tuple (Array.mk [])), AV.v (Value.tuple (Array.mk [])), AV.v (Value.tuple (Array.mk [])), AV.v (Value.tuple (Array.mk [])), AV.v (Value.tuple (Array.mk [])), AV.v (Value.tuple (Array.mk [])), AV.v (Value.tuple (Array.mk [])), AV.v (Value.tuple (Array.mk []))] [AV.iface 59 (AV.ptr 0 0), AV.v (Value.int IntKind.i64 (Int.ofNat i)), AV.v (Value.int IntKind.i64 (Int.ofNat n)), AV.any, AV.any, AV.any, AV.any, AV.v (Value.int IntKind.i64 (Int.ofNat i)), AV.any, AV.any, AV.any, AV.any, AV.any, AV.any, AV.any, AV.any, AV.any, AV.any, AV.any, AV.any, AV.any, AV.any, AV.any, AV.any, AV.any, AV.any, AV.any, AV.any, AV.any, AV.any, AV.any, AV.any, AV.any, AV.any, AV.any, AV.any, AV.any, AV.any, AV.any, AV.any, AV.any, AV.any, AV.any, AV.any, AV.any, AV.any, AV.any, AV.any])).a ((Cnd.p (OW (AO.cells [AV.slice 1 0 s.xs.length 1 (Cp.lo (roomOf s)), AV.map 3, AV.v (Value.int IntKind.i64 s.tn)] 108) (AO.cells [AV.slice 1 0 s.xs.length 1 (Cp.lo (roomOf s)), AV.map 3, AV.v (Value.int IntKind.i64 s.tn)] 108))).a ((Cnd.p (OW (AO.cells (rowV pv (blocks s)) 110) (AO.cells (AV.rens (nmU 0 1 3) (rowV pv (blocks s))) 110))).a ((Cnd.p (OW (AO.any (famHP 57 (fam 0 s.xs))) (AO.any (famHP 57 (fam 0 s.xs))))).a ((Cnd.p (OW (AO.map (mE ptrV s.m) s.ck) (AO.map (renE (nmU 0 1 3) (mE ptrV s.m)) s.ck))).a Cnd.t))))))) := by kernel_rfl
def cUp (s : Ps) : List AV → Option (AP AV) := mkC gUpL (fun p => Big s ∧ p.2.2.2 < s.xs.length) (fun p => nmU p.1 p.2.1 p.2.2.1) (fun p => [hI, iv (Int.ofNat p.2.2.2)]) (fun _ => uL s) (fun p => .leaf .ret [.tuple []] (uL (upS s p.2.2.2)))
def cDown (s : Ps) : List AV → Option (AP AV) := mkC gDown (fun p => Big s ∧ p.2.2.2.2 ≤ s.xs.length ∧ p.2.2.2.1 ≤ s.xs.length) (fun p => nmU p.1 p.2.1 p.2.2.1) (fun p => [hI, iv (Int.ofNat p.2.2.2.1), iv (Int.ofNat p.2.2.2.2)]) (fun _ => uL s)
  (fun p => .leaf .ret [.v (.bool (decide (p.2.2.2.1 < (downS s p.2.2.2.1 p.2.2.2.2).2)))] (uL (downS s p.2.2.2.1 p.2.2.2.2).1))
abbrev fHPush : Nat := 19
abbrev fHPop : Nat := 20
abbrev fHRem : Nat := 21
def hpushS (s : Ps) (x : It) : Ps := upS (pushS s x) s.xs.length
def hpopD (s : Ps) : Ps := (downS (swapS s 0 (s.xs.length - 1)) 0 (s.xs.length - 1)).1
theorem oHPush_eq (s t : Ps) (x : It) (p : Nat) (F : HP) : wRun [(fPush, cPush s x p), (fUp, cUp t), (fLen, cLen t)] (hintL [(fHPush, 1, 3, hv (iv (Int.ofNat s.xs.length)))]) [] default fHPush [hI, alP] (pL s x p) [0, 1100, 1101, 1102] F = VT.leaf (AV.tuple []) [some (AO.cells [AV.slice 1100 0 (upS t (Int.ofNat s.xs.length).toNat).xs.length 1 (Cp.lo (roomOf (upS t (Int.ofNat s.xs.length).toNat))), AV.map 1102, AV.v (Value.int IntKind.i64 (upS t (Int.ofNat s.xs.length).toNat).tn)] 108), some (AO.cells (AV.rens (sgN (nmU 0 1100 1102) [] 0) (rowV pv (blocks (upS t (Int.ofNat s.xs.length).toNat)))) 110), some (AO.any (famHP 57 (fam 0 (upS t (Int.ofNat s.xs.length).toNat).xs))), some (AO.map (renE (sgN (nmU 0 1100 1102) [] 0) (mE ptrV (upS t (Int.ofNat s.xs.length).toNat).m)) (upS t (Int.ofNat s.xs.length).toNat).ck)] 1103 (((Cnd.p (Big s)).a ((Cnd.p (VW [AV.ptr 0 0, AV.iface 55 (AV.ptr 1004 0)] [AV.ptr 0 0, AV.iface 55 (AV.ptr 1004 0)])).a ((Cnd.p (OW (AO.cells [AV.slice 1001 0 s.xs.length 1 (Cp.lo (roomOf s)), AV.map 1003, AV.v (Value.int IntKind.i64 s.tn)] 108) (AO.cells [AV.slice 1001 0 s.xs.length 1 (Cp.lo (roomOf s)), AV.map 1003, AV.v (Value.int IntKind.i64 s.tn)] 108))).a ((Cnd.p (OW (AO.cells (rowV pv (blocks s)) 110) (AO.cells (AV.rens (nmP 0 1001 1003 1004) (rowV pv (blocks s))) 110))).a ((Cnd.p (OW (AO.any (famHP 57 (fam 0 s.xs))) (AO.any (famHP 57 (fam 0 s.xs))))).a ((Cnd.p (OW (AO.map (mE ptrV s.m) s.ck) (AO.map (renE (nmP 0 1001 1003 1004) (mE ptrV s.m)) s.ck))).a ((Cnd.p (OW (AO.cells [AV.v (Value.int IntKind.i64 x.c), AV.v (Value.int IntKind.i64 x.a), AV.v (Value.int IntKind.i64 x.b), AV.v (Value.int IntKind.i64 (Int.ofNat p))] 114) (AO.cells [AV.v (Value.int IntKind.i64 x.c), AV.v (Value.int IntKind.i64 x.a), AV.v (Value.int IntKind.i64 x.b), AV.v (Value.int IntKind.i64 (Int.ofNat p))] 114))).a ((Cnd.p (OW (AO.same 1004 x.k) (AO.same 1004 x.k))).a Cnd.t)))))))).a (((Cnd.p (true = true)).a ((Cnd.p True).a ((Cnd.p (VW [AV.slice 1100 0 (s.xs ++ [x]).length 1 (Cp.lo (roomOf (pushS s x)))] [AV.slice 1100 0 t.xs.length 1 (Cp.lo (roomOf t))])).a ((Cnd.p (OW (AO.cells (AV.rens (sgN (nmP 0 1001 1003 1004) [1001, 1002, 1003] 1100) (rowV pv (blocks (pushS s x)))) 110) (AO.cells (AV.rens (nmR 1100) (rowV pv (blocks t))) 110))).a ((Cnd.p (OW (AO.any (famHP 57 (fam 0 (s.xs ++ [x])))) (AO.any (famHP 57 (fam 0 t.xs))))).a Cnd.t))))).a (((Cnd.p (Wk (AV.v (Value.int IntKind.i64 (IntKind.i64.wrap (Int.ofNat t.xs.length - Int.ofNat 1)))) (AV.v (Value.int IntKind.i64 (Int.ofNat s.xs.length))))).a Cnd.t).a (((Cnd.p (Big t ∧ (Int.ofNat s.xs.length).toNat < t.xs.length)).a ((Cnd.p (VW [AV.iface 59 (AV.ptr 0 0), AV.v (Value.int IntKind.i64 (Int.ofNat s.xs.length))] [AV.iface 59 (AV.ptr 0 0), AV.v (Value.int IntKind.i64 (Int.ofNat (Int.ofNat s.xs.length).toNat))])).a ((Cnd.p (OW (AO.cells [AV.slice 1100 0 (s.xs ++ [x]).length 1 (Cp.lo (roomOf (pushS s x))), AV.map 1102, AV.v (Value.int IntKind.i64 s.tn)] 108) (AO.cells [AV.slice 1100 0 t.xs.length 1 (Cp.lo (roomOf t)), AV.map 1102, AV.v (Value.int IntKind.i64 t.tn)] 108))).a ((Cnd.p (OW (AO.cells (AV.rens (sgN (nmR 1100) [] 0) (rowV pv (blocks t))) 110) (AO.cells (AV.rens (nmU 0 1100 1102) (rowV pv (blocks t))) 110))).a ((Cnd.p (OW (AO.any (famHP 57 (fam 0 t.xs))) (AO.any (famHP 57 (fam 0 t.xs))))).a ((Cnd.p (OW (AO.map (renE (sgN (nmP 0 1001 1003 1004) [1001, 1002, 1003] 1100) (mE ptrV s.m)) s.ck) (AO.map (renE (nmU 0 1100 1102) (mE ptrV t.m)) t.ck))).a Cnd.t)))))).a Cnd.t)))) := by kernel_rfl
theorem oHPush0_eq (s t : Ps) (x : It) (p : Nat) (F : HP) : wRun [(fPush, cPush0 s x p), (fUp, cUp t), (fLen, cLen t)] (hintL [(fHPush, 1, 3, hv (iv (Int.ofNat 0)))]) [] default fHPush [hI, alP] (pL0 s x p) [0, 1100, 1101, 1102] F = VT.leaf (AV.tuple []) [some (AO.cells [AV.slice 1100 0 (upS t 0).xs.length 1 (Cp.lo (roomOf (upS t 0))), AV.map 1102, AV.v (Value.int IntKind.i64 (upS t 0).tn)] 108), some (AO.cells (AV.rens (sgN (nmU 0 1100 1102) [] 0) (rowV pv (blocks (upS t 0)))) 110), some (AO.any (famHP 57 (fam 0 (upS t 0).xs))), some (AO.map (renE (sgN (nmU 0 1100 1102) [] 0) (mE ptrV (upS t 0).m)) (upS t 0).ck)] 1103 (((Cnd.p (s.xs = [])).a ((Cnd.p (VW [AV.ptr 0 0, AV.iface 55 (AV.ptr 1004 0)] [AV.ptr 0 0, AV.iface 55 (AV.ptr 1004 0)])).a ((Cnd.p (OW (AO.cells [AV.v (Value.slice none 0 0), AV.map 1003, AV.v (Value.int IntKind.i64 s.tn)] 108) (AO.cells [AV.v (Value.slice none 0 0), AV.map 1003, AV.v (Value.int IntKind.i64 s.tn)] 108))).a ((Cnd.p (OW (AO.map (mE ptrV s.m) s.ck) (AO.map (renE (nmP 0 1003 1003 1004) (mE ptrV s.m)) s.ck))).a ((Cnd.p (OW (AO.cells [AV.v (Value.int IntKind.i64 x.c), AV.v (Value.int IntKind.i64 x.a), AV.v (Value.int IntKind.i64 x.b), AV.v (Value.int IntKind.i64 (Int.ofNat p))] 114) (AO.cells [AV.v (Value.int IntKind.i64 x.c), AV.v (Value.int IntKind.i64 x.a), AV.v (Value.int IntKind.i64 x.b), AV.v (Value.int IntKind.i64 (Int.ofNat p))] 114))).a ((Cnd.p (OW (AO.same 1004 x.k) (AO.same 1004 x.k))).a Cnd.t)))))).a (((Cnd.p (true = true)).a ((Cnd.p True).a ((Cnd.p (VW [AV.slice 1100 0 (s.xs ++ [x]).length 1 (Cp.lo (roomOf (pushS s x)))] [AV.slice 1100 0 t.xs.length 1 (Cp.lo (roomOf t))])).a ((Cnd.p (OW (AO.cells (AV.rens (sgN (nmP 0 1003 1003 1004) [1001, 1002, 1003] 1100) (rowV pv (blocks (pushS s x)))) 110) (AO.cells (AV.rens (nmR 1100) (rowV pv (blocks t))) 110))).a ((Cnd.p (OW (AO.any (famHP 57 (fam 0 (s.xs ++ [x])))) (AO.any (famHP 57 (fam 0 t.xs))))).a Cnd.t))))).a (((Cnd.p (Wk (AV.v (Value.int IntKind.i64 (IntKind.i64.wrap (Int.ofNat t.xs.length - Int.ofNat 1)))) (AV.v (Value.int IntKind.i64 (Int.ofNat 0))))).a Cnd.t).a (((Cnd.p (Big t ∧ 0 < t.xs.length)).a ((Cnd.p (VW [AV.iface 59 (AV.ptr 0 0), AV.v (Value.int IntKind.i64 (Int.ofNat 0))] [AV.iface 59 (AV.ptr 0 0), AV.v (Value.int IntKind.i64 (Int.ofNat 0))])).a ((Cnd.p (OW (AO.cells [AV.slice 1100 0 (s.xs ++ [x]).length 1 (Cp.lo (roomOf (pushS s x))), AV.map 1102, AV.v (Value.int IntKind.i64 s.tn)] 108) (AO.cells [AV.slice 1100 0 t.xs.length 1 (Cp.lo (roomOf t)), AV.map 1102, AV.v (Value.int IntKind.i64 t.tn)] 108))).a ((Cnd.p (OW (AO.cells (AV.rens (sgN (nmR 1100) [] 0) (rowV pv (blocks t))) 110) (AO.cells (AV.rens (nmU 0 1100 1102) (rowV pv (blocks t))) 110))).a ((Cnd.p (OW (AO.any (famHP 57 (fam 0 t.xs))) (AO.any (famHP 57 (fam 0 t.xs))))).a ((Cnd.p (OW (AO.map (renE (sgN (nmP 0 1003 1003 1004) [1001, 1002, 1003] 1100) (mE ptrV s.m)) s.ck) (AO.map (renE (nmU 0 1100 1102) (mE ptrV t.m)) t.ck))).a Cnd.t)))))).a Cnd.t)))) := by kernel_rfl
end
end Go.Proofs.Ytojfbgmeaadanaa.Alm

/- Alarms: Push; up, down, heap.Push as contracts. -/
set_option linter.unusedVariables false
set_option linter.unusedSimpArgs false
set_option maxRecDepth 100000
namespace Go.Proofs.Ytojfbgmeaadanaa.Alm
open Go Go.RowKit Go.Proofs.Ytojfbgmeaadanaa.Eng Go.Proofs.Ytojfbgmeaadanaa.Kit
theorem gPush_ro : ∀ args, RO (gPush args) := by
  intro args
  unfold gPush
  repeat' split
  all_goals first
    | exact RO.fail _
    | (refine RO.read _ _ fun o => ?_
       repeat' split
       all_goals first | exact RO.ret _ | exact RO.fail _)
theorem gUpL_ro : ∀ args, RO (gUpL args) := by
  intro args
  unfold gUpL
  repeat' split
  all_goals first
    | exact RO.fail _
    | (refine RO.read _ _ fun o => ?_
       repeat' split
       all_goals first | exact RO.ret _ | exact RO.fail _)
theorem gDownL_ro : ∀ args, RO (gDownL args) := by
  intro args
  unfold gDownL
  repeat' split
  all_goals first
    | exact RO.fail _
    | (refine RO.read _ _ fun o => ?_
       repeat' split
       all_goals first | exact RO.ret _ | exact RO.fail _)
theorem gDown_ro : ∀ args, RO (gDown args) := by
  intro args
  unfold gDown
  repeat' split
  all_goals first
    | exact RO.fail _
    | (refine RO.read _ _ fun o => ?_
       repeat' split
       all_goals first | exact RO.ret _ | exact RO.fail _)
theorem push_blocks (s : Ps) (x : It) : blocks (pushS s x) = s.xs.map (·.k) ++ [x.k] := by simp [blocks, pushS]
theorem push_fam (s : Ps) (x : It) : ((x.k, alC x s.xs.length) :: fam 0 s.xs).Perm (fam 0 (pushS s x).xs) := by
  show List.Perm _ (fam 0 (s.xs ++ [x]))
  rw [fam_append, fam, fam, Nat.zero_add]
  exact List.perm_append_comm (l₁ := [(x.k, alC x s.xs.length)])
theorem push_len (s : Ps) (x : It) : (pushS s x).xs.length = s.xs.length + 1 := by simp [pushS]
theorem push_room (s : Ps) (x : It) : roomOf (pushS s x) = s.xs.length + 1 := by simp [roomOf, pushS]
/-- What Push leaves is a clock with one alarm more. -/
theorem push_goes (s : Ps) (x : It) (n : Nat) (hn : n = s.xs.length) : Goes [.tuple []] [(0, hdr 1001 1003 (n + 1) (n + 1) s.tn), (1001, .cells (rowV pv (s.xs.map (·.k)) ++ [.ptr 1004 0]) tPtr), (1002, famO (fam 0 s.xs)), (1003, mapO s), (1004, alO x n), (1005, .same 1004 x.k)] [.tuple []] (uM (pushS s x)) := by
  subst hn
  have g1 : Goes [.tuple []] [(0, hdr 1001 1003 (s.xs.length + 1) (s.xs.length + 1) s.tn), (1001, .cells (rowV pv (s.xs.map (·.k)) ++ [.ptr 1004 0]) tPtr), (1002, famO (fam 0 s.xs)), (1003, mapO s), (1004, alO x s.xs.length), (1005, .same 1004 x.k)] [.tuple []]
      [(0, hdr 1001 1003 (s.xs.length + 1) (s.xs.length + 1) s.tn), (1001, .cells (rowV pv (s.xs.map (·.k)) ++ [ptrV x.k]) tPtr), (1002, famO (fam 0 s.xs)), (1003, mapO s), (1004, alO x s.xs.length), (1005, .same 1004 x.k)] := by
    refine goes_plain (i := 1004) (j := 1005) (b := x.k) (by kernel_rfl) (by kernel_rfl) rfl (fun n h => ?_) (fun n _ h => ?_) (fun _ _ _ _ h => h) (fun n o o' h h' N D w r hN ho => ?_)
    · simp only [getO] at h ⊢
      repeat' split at h
      all_goals first
        | (cases h; done)
        | simp only [*, if_false]
    · simp only [getO] at h ⊢
      repeat' split at h
      all_goals first
        | (cases h; done)
        | simp only [*, if_false]
    · by_cases hn : n = 1001
      · subst hn
        cases h
        cases h'
        obtain ⟨l, arr, fz, a1, a2, a3, a4, a5, a6, a7, a8⟩ := ho
        refine ⟨l, arr, fz, a1, a2, a3, a4, by simpa using a5, a6, ?_, a8⟩
        rw [show (rowV pv (s.xs.map (·.k)) ++ [ptrV x.k]).length = (rowV pv (s.xs.map (·.k)) ++ [AV.ptr 1004 0]).length by simp]
        refine vrs_last (fun y hy => ?_) a7
        simp only [VR] at hy ⊢
        obtain ⟨l2, b1, b2⟩ := hy
        rw [hN] at b1
        cases b1
        exact b2
      · have : o = o' := by
          simp only [getO, if_neg hn] at h h'
          exact Option.some.inj (h.symm.trans h')
        subst this
        exact ho
  have g2 : Goes [.tuple []] [(0, hdr 1001 1003 (s.xs.length + 1) (s.xs.length + 1) s.tn), (1001, .cells (rowV pv (s.xs.map (·.k)) ++ [ptrV x.k]) tPtr), (1002, famO (fam 0 s.xs)), (1003, mapO s), (1004, alO x s.xs.length), (1005, .same 1004 x.k)] [.tuple []]
      [(0, hdr 1001 1003 (s.xs.length + 1) (s.xs.length + 1) s.tn), (1001, .cells (rowV pv (s.xs.map (·.k)) ++ [ptrV x.k]) tPtr), (1002, famO ((x.k, alC x s.xs.length) :: fam 0 s.xs)), (1003, mapO s)] :=
    goes_in (k := 1002) (i := 1004) (j := 1005) (e := tAl) (b := x.k) (c := alC x s.xs.length) (l := fam 0 s.xs) (by kernel_rfl) (by kernel_rfl) rfl rfl rfl rfl rfl rfl (by decide)
      (fun n h1 h2 h3 => by simp only [getO, h1, h2, h3, if_false]) ⟨trivial, trivial⟩ (all_cons ⟨rfl, rfl, trivial, trivial⟩ (all_cons (by
        show AV.cls _ (vmap _ ++ vmap [_])
        rw [← vmap_append]
        exact cls_vmap _ _) (all_cons trivial (all_cons (map_clE _ _) all_nil))))
  refine g1.trans (g2.trans (goes_lw (by kernel_rfl) (by kernel_rfl) ⟨rfl, OW.of_eq ?_, rfl, OW.of_eq ?_, rfl, ow_fam (push_fam s x), rfl, OW.refl _, trivial⟩ (VW.refl _)))
  · show _ = hdr 1001 1003 (pushS s x).xs.length (roomOf (pushS s x)) s.tn
    rw [push_len, push_room]
  · show _ = rowO (blocks (pushS s x))
    rw [push_blocks, rowO, rowV_append]
    rfl
theorem rowP_ren (L : List Nat) (σ : Nat → Nat) (h : σ 1004 = 1004) : (AO.cells (rowV pv L ++ [.ptr 1004 0]) tPtr).ren σ = .cells (rowV pv L ++ [.ptr 1004 0]) tPtr := by
  have : ∀ (σ : Nat → Nat) (a b : List AV), AV.rens σ (a ++ b) = AV.rens σ a ++ AV.rens σ b := by
    intro σ a b
    induction a with
    | nil => rfl
    | cons y a ih => simp only [List.cons_append, AV.rens, ih]
  simp only [AO.ren, this, rens_rowV, AV.rens, AV.ren, h]
theorem push_tri (s : Ps) (x : It) (p : Nat) (hB : Big s) : Tri Try.prog default fPush [.ptr 0 0, alP] (pL s x p) (.tuple []) (uM (pushS s x)) := by
  refine tri_run (con := []) (hints := hPush s.xs.length (s.xs.map (·.k))) (lc := []) [0, 1001, 1002, 1003, 1004, 1005, 1100, 1101] rfl (fun _ _ => noC) (fun _ _ => noL) fun F => ?_
  have e := oPush_eq (blocks s) (s.xs.map (·.k)) s.xs.length (roomOf s) x.k x p s.tn (famO (fam 0 s.xs)) (mapO s) F
  have hle := hB.le
  have t1 : List.take s.xs.length (List.drop 0 (rowV pv (blocks s))) = rowV pv (s.xs.map (·.k)) := by
    rw [← Nat.mul_one s.xs.length, List.drop_zero, rowV_take (k := 1) (fun _ => rfl), blocks, List.take_append_of_le_length (by simp)]
    rw [List.take_of_length_le (by simp)]
  refine cast (congrArg (VAll _) e.symm) ⟨⟨?_, [.tuple []], [(0, hdr 1001 1003 (s.xs.length + 1) (s.xs.length + 1) s.tn), (1001, .cells (rowV pv (s.xs.map (·.k)) ++ [.ptr 1004 0]) tPtr), (1002, famO (fam 0 s.xs)), (1003, mapO s), (1004, alO x s.xs.length), (1005, .same 1004 x.k)], [(1001, 1101), (1002, 1002), (1003, 1003), (1004, 1004), (1005, 1005)], by kernel_rfl,
    fit_mk _ (by kernel_rfl) (by kernel_rfl) (VW.refl _) ⟨⟨_, rfl, OW.refl _⟩, ⟨_, rfl, OW.of_eq (rowP_ren _ _ (by kernel_rfl)).symm⟩, ⟨_, rfl, OW.refl _⟩, ⟨_, rfl, OW.of_eq (map_ren s _).symm⟩, ⟨_, rfl, OW.refl _⟩, ⟨_, rfl, OW.refl _⟩, trivial⟩, push_goes s x _ rfl⟩⟩
  · have l1 : 0 + s.xs.length ≤ s.xs.length + s.g.length := by omega
    have l2 : (s.xs.length + 1) * 8 ≤ 140737488355328 := by omega
    have l3 : s.xs.length + 1 ≤ 9223372036854775807 := by omega
    simp only [Cnd.holds, t1, row_len1, blocks_len, List.length_map, l1, l2, l3, Nat.ble_eq, true_and, and_true, Nat.mul_one, Nat.beq_refl]
    exact ⟨Wk.refl _, OW.refl _⟩
theorem uM_cl (K : Nat → Bool) (hK : K 1001 = true ∧ K 1003 = true) (s : Ps) : ∀ x ∈ uM s, x.2.cl K := all_cons ⟨hK.1, hK.2, trivial, trivial⟩ (all_cons (cls_rowV _ _) (all_cons trivial (all_cons (map_clE _ _) all_nil)))
theorem cPush_ok (s : Ps) (x : It) (p : Nat) (F : HP) : C1OK Try.prog F fPush (cPush s x p) :=
  mkC_ok (W := default) oldDef (fun _ => .tuple []) gPush_ro (fun _ => rfl) (fun q hq => push_tri s x p hq)
    fun q => ⟨by kernel_rfl, by kernel_rfl, ⟨rfl, rfl, trivial⟩, all_cons ⟨rfl, rfl, trivial, trivial⟩ (all_cons (cls_rowV _ _) (all_cons trivial (all_cons (map_clE _ _) (all_cons ⟨trivial, trivial, trivial, trivial, trivial⟩ (all_cons rfl all_nil))))), ⟨trivial, trivial⟩, uM_cl _ ⟨rfl, rfl⟩ _⟩
theorem push0_tri (s : Ps) (x : It) (p : Nat) (h0 : s.xs = []) : Tri Try.prog default fPush [.ptr 0 0, alP] (pL0 s x p) (.tuple []) (uM (pushS s x)) := by
  refine Tri.pre (H1 := [(0, hdr0 1003 s.tn), (1002, famO (fam 0 s.xs)), (1003, mapO s), (1004, alO x p), (1005, .same 1004 x.k)]) ?_ ?_
  · rw [h0]
    exact goes_none (k := 1002) (e := tAl) (by kernel_rfl) (by kernel_rfl) rfl rfl (fun n h => by simp only [pL0, getO, h, if_false])
  refine tri_run (con := []) (hints := hintL [(fPush, 1, 4, hv (iv (Int.ofNat 0)))]) (lc := []) [0, 1002, 1003, 1004, 1005, 1100, 1101] rfl (fun _ _ => noC) (fun _ _ => noL) fun F => ?_
  have e := oPush0_eq x.k x p s.tn (famO (fam 0 s.xs)) (mapO s) F
  have hl : s.xs.length = 0 := by rw [h0]; rfl
  refine cast (congrArg (VAll _) e.symm) ⟨⟨?_, [.tuple []], [(0, hdr 1001 1003 (s.xs.length + 1) (s.xs.length + 1) s.tn), (1001, .cells (rowV pv (s.xs.map (·.k)) ++ [.ptr 1004 0]) tPtr), (1002, famO (fam 0 s.xs)), (1003, mapO s), (1004, alO x s.xs.length), (1005, .same 1004 x.k)], [(1001, 1101), (1002, 1002), (1003, 1003), (1004, 1004), (1005, 1005)], by kernel_rfl,
    fit_mk _ (by kernel_rfl) (by kernel_rfl) (VW.refl _) ⟨⟨_, rfl, OW.of_eq ?_⟩, ⟨_, rfl, OW.of_eq ?_⟩, ⟨_, rfl, OW.refl _⟩, ⟨_, rfl, OW.of_eq (map_ren s _).symm⟩, ⟨_, rfl, OW.of_eq ?_⟩, ⟨_, rfl, OW.refl _⟩, trivial⟩, push_goes s x _ rfl⟩⟩
  · simp only [Cnd.holds, true_and, and_true]
    exact Wk.refl _
  · rw [hl]; rfl
  · rw [h0]; rfl
  · rw [hl]; rfl
theorem cPush0_ok (s : Ps) (x : It) (p : Nat) (F : HP) : C1OK Try.prog F fPush (cPush0 s x p) :=
  mkC_ok (W := default) oldDef (fun _ => .tuple []) gPush_ro (fun _ => rfl) (fun q hq => push0_tri s x p hq)
    fun q => ⟨by kernel_rfl, by kernel_rfl, ⟨rfl, rfl, trivial⟩, all_cons ⟨trivial, rfl, trivial, trivial⟩ (all_cons (map_clE _ _) (all_cons ⟨trivial, trivial, trivial, trivial, trivial⟩ (all_cons rfl all_nil))), ⟨trivial, trivial⟩, uM_cl _ ⟨rfl, rfl⟩ _⟩
end Go.Proofs.Ytojfbgmeaadanaa.Alm

/- Alarms: up, down, heap.Push as contracts. -/
set_option linter.unusedVariables false
set_option linter.unusedSimpArgs false
set_option maxRecDepth 100000
namespace Go.Proofs.Ytojfbgmeaadanaa.Alm
open Go Go.RowKit Go.Proofs.Ytojfbgmeaadanaa.Eng Go.Proofs.Ytojfbgmeaadanaa.Kit
theorem upA_cl (K : Nat → Bool) (hK : K 0 = true) (j : Nat) : ∀ x ∈ upA j, AV.cl K x.2 := all_cons hK (all_cons trivial all_nil)
theorem downA_cl (K : Nat → Bool) (hK : K 0 = true) (i0 n i : Nat) : ∀ x ∈ downA i0 n i, AV.cl K x.2 := all_cons hK (all_cons trivial (all_cons trivial (all_cons trivial all_nil)))
theorem lUp_ok (s : Ps) (F : HP) : L1OK Try.prog F (loopN fUp 0) (lUp s) := by
  refine mkL_ok (W := default) oldDef gUpL_ro (fun p hp => up_loop s p.2.2.2 hp.1 hp.2) fun p => ?_
  simp only [RT.pick]
  exact closedT rfl rfl (upA_cl _ rfl _) (uL_cl _ ⟨rfl, rfl⟩ s) all_nil (uL_cl _ ⟨rfl, rfl⟩ _)
theorem lDown_ok (s : Ps) (F : HP) : L1OK Try.prog F (loopN fDown 2) (lDown s) := by
  refine mkL_ok (W := default) oldDef gDownL_ro (fun p hp => down_loop s p.2.2.2.1 p.2.2.2.2.1 p.2.2.2.2.2 hp.1 hp.2.1 hp.2.2) fun p => ?_
  simp only [RT.pick]
  exact closedT rfl rfl (downA_cl _ rfl _ _ _) (uL_cl _ ⟨rfl, rfl⟩ s) (downA_cl _ rfl _ _ _) (uL_cl _ ⟨rfl, rfl⟩ _)
theorem uL_fits {v : AV} {s s' : Ps} {σ1 σ2 : Nat → Nat} (hs : s = s') (hv : ∀ σ, AV.ren σ v = v) : Fits [0, 1, 2, 3] [v] [some (hdr 1 3 s.xs.length (roomOf s) s.tn), some (.cells (AV.rens σ1 (rowV pv (blocks s))) tPtr), some (famO (fam 0 s.xs)), some (.map (renE σ2 (mE ptrV s.m)) s.ck)] [v] (uL s') := by
  subst hs
  have e3 : renE σ2 (mE ptrV s.m) = mE ptrV s.m := by
    have := map_ren s σ2
    simp only [mapO, AO.ren, AO.map.injEq, and_true] at this
    exact this
  rw [rens_rowV, e3]
  refine (fit_mk (vs := [v]) (vs' := [v]) (H' := uL s) [] rfl rfl ?_ (uL_objs rfl rfl rfl rfl rfl rfl rfl rfl)).fits rfl
  show VW [v] [AV.ren _ v]
  rw [hv]
  exact VW.refl _
theorem map_renE (m : IMap Nat) (σ : Nat → Nat) : renE σ (mE ptrV m) = mE ptrV m := by
  have := map_ren ⟨[], [], m, 0, 0⟩ σ
  simp only [mapO, AO.ren, AO.map.injEq, and_true] at this
  exact this
theorem up_tri (s : Ps) (j : Nat) (hB : Big s) (hj : j < s.xs.length) : Tri Try.prog default fUp [hI, iv (Int.ofNat j)] (uL s) (.tuple []) (uL (upS s j)) := by
  refine tri_run (con := []) (hints := noHints) (lc := [(fUp, 0, loopN fUp 0, lUp s)]) [0, 1, 2, 3] rfl (fun _ _ => noC) (fun F _ => one_l (lUp_ok s F)) fun F => ?_
  refine cast (congrArg (VAll _) (oUpF_eq s j F).symm) ⟨⟨?_, uL_fits rfl (fun _ => rfl)⟩⟩
  simp only [Cnd.holds, rens_rowV, map_renE, true_and, and_true]
  and_intros
  all_goals first
    | exact hB
    | exact hj
    | exact OW.refl _
    | (repeat (first | exact VW.nil | refine VW.cons (Wk.refl _) ?_ | refine VW.cons (Wk.any _) ?_))
theorem down_tri (s : Ps) (i n : Nat) (hB : Big s) (hn : n ≤ s.xs.length) (hi : i ≤ s.xs.length) : Tri Try.prog default fDown [hI, iv (Int.ofNat i), iv (Int.ofNat n)] (uL s) (.v (.bool (decide (i < (downS s i n).2)))) (uL (downS s i n).1) := by
  refine tri_run (con := []) (hints := noHints) (lc := [(fDown, 2, loopN fDown 2, lDown s)]) [0, 1, 2, 3] rfl (fun _ _ => noC) (fun F _ => one_l (lDown_ok s F)) fun F => ?_
  have eb : decide (Int.ofNat (downS s i n).snd > Int.ofNat i) = decide (i < (downS s i n).2) := by simp only [gt_iff_lt, nat_lt]
  refine cast (congrArg (VAll _) (oDownF_eq s i n F).symm) ?_
  rw [eb]
  refine ⟨⟨?_, uL_fits rfl (fun _ => rfl)⟩⟩
  simp only [Cnd.holds, rens_rowV, map_renE, true_and, and_true]
  and_intros
  all_goals first
    | exact hB
    | exact hn
    | exact hi
    | exact OW.refl _
    | (repeat (first | exact VW.nil | refine VW.cons (Wk.refl _) ?_ | refine VW.cons (Wk.any _) ?_))
theorem cUp_ok (s : Ps) (F : HP) : C1OK Try.prog F fUp (cUp s) :=
  mkC_ok (W := default) oldDef (fun _ => .tuple []) gUpL_ro (fun _ => rfl) (fun q hq => up_tri s _ hq.1 hq.2)
    fun q => ⟨rfl, rfl, ⟨rfl, trivial, trivial⟩, uL_cl _ ⟨rfl, rfl⟩ _, ⟨trivial, trivial⟩, uL_cl _ ⟨rfl, rfl⟩ _⟩
theorem cDown_ok (s : Ps) (F : HP) : C1OK Try.prog F fDown (cDown s) :=
  mkC_ok (W := default) oldDef (fun p => .v (.bool (decide (p.2.2.2.1 < (downS s p.2.2.2.1 p.2.2.2.2).2)))) gDown_ro (fun _ => rfl) (fun q hq => down_tri s _ _ hq.1 hq.2.1 hq.2.2)
    fun q => ⟨rfl, rfl, ⟨rfl, trivial, trivial, trivial⟩, uL_cl _ ⟨rfl, rfl⟩ _, ⟨trivial, trivial⟩, uL_cl _ ⟨rfl, rfl⟩ _⟩
/-! heap.Push. -/
theorem uM_fits {v : AV} {s s' : Ps} {σ1 σ2 : Nat → Nat} (hs : s = s') (hv : ∀ σ, AV.ren σ v = v) : Fits [0, 1100, 1101, 1102] [v] [some (hdr 1100 1102 s.xs.length (roomOf s) s.tn), some (.cells (AV.rens σ1 (rowV pv (blocks s))) tPtr), some (famO (fam 0 s.xs)), some (.map (renE σ2 (mE ptrV s.m)) s.ck)] [v] (uM s') := by
  subst hs
  rw [rens_rowV, map_renE]
  refine (fit_mk (vs := [v]) (vs' := [v]) (H' := uM s) [(1001, 1100), (1002, 1101), (1003, 1102)] (by kernel_rfl) (by kernel_rfl) ?_ ⟨⟨_, rfl, OW.refl _⟩, ⟨_, rfl, OW.of_eq (calm_row _ _).symm⟩, ⟨_, rfl, OW.refl _⟩, ⟨_, rfl, OW.of_eq (map_ren s _).symm⟩, trivial⟩).fits rfl
  show VW [v] [AV.ren _ v]
  rw [hv]
  exact VW.refl _
/-- There is room for one more. -/
def Room (s : Ps) : Prop := (s.xs.length + 1) * 15 ≤ 140737488355328
theorem Room.big {s : Ps} (h : Room s) : Big s := by unfold Room at h; unfold Big; omega
theorem Room.push {s : Ps} (h : Room s) (x : It) : Big (pushS s x) := by unfold Room at h; unfold Big; rw [push_len]; exact h
theorem len_down (n : Nat) (h : n ≤ 9382499223688) : IntKind.i64.wrap (Int.ofNat (n + 1) - Int.ofNat 1) = Int.ofNat n := by
  rw [IntWalk.i64_in _ (by simp only [Int.ofNat_eq_natCast]; omega)]; simp only [Int.ofNat_eq_natCast]; omega
theorem hpush_tri (s : Ps) (x : It) (p : Nat) (hR : Room s) : Tri Try.prog default fHPush [hI, alP] (pL s x p) (.tuple []) (uM (hpushS s x)) := by
  obtain ⟨t, ht⟩ : ∃ t, pushS s x = t := ⟨_, rfl⟩
  refine tri_run (con := [(fPush, cPush s x p), (fUp, cUp t), (fLen, cLen t)]) (hints := hintL [(fHPush, 1, 3, hv (iv (Int.ofNat s.xs.length)))]) (lc := []) [0, 1100, 1101, 1102] rfl (fun F _ => con_cons (cPush_ok s x p F) (con_cons (cUp_ok t F) (con_cons (cLen_ok t F) noC))) (fun _ _ => noL) fun F => ?_
  have hle := hR.big.le
  have e1 : t.xs.length = s.xs.length + 1 := by rw [← ht, push_len]
  have hBt : Big t := ht ▸ hR.push x
  have hw : IntKind.i64.wrap (Int.ofNat t.xs.length - Int.ofNat 1) = Int.ofNat s.xs.length := by rw [e1]; exact len_down _ hle
  refine cast (congrArg (VAll _) (oHPush_eq s t x p F).symm) ⟨⟨?_, uM_fits (by rw [hpushS, ht]; rfl) (fun _ => rfl)⟩⟩
  have hsl : s.xs ++ [x] = t.xs := by rw [← ht]; rfl
  have htn : t.tn = s.tn := by rw [← ht]; rfl
  have htm : t.m = s.m := by rw [← ht]; rfl
  have htc : t.ck = s.ck := by rw [← ht]; rfl
  have hlt : (Int.ofNat s.xs.length).toNat < t.xs.length := by show s.xs.length < _; omega
  simp only [Cnd.holds, rens_rowV, map_renE, ht, hsl, htn, htm, htc, true_and, and_true]
  and_intros
  all_goals first
    | exact hR.big
    | exact hBt
    | exact hlt
    | exact wk_int hw
    | exact OW.refl _
    | exact VW.refl _
theorem hpush0_tri (s : Ps) (x : It) (p : Nat) (h0 : s.xs = []) : Tri Try.prog default fHPush [hI, alP] (pL0 s x p) (.tuple []) (uM (hpushS s x)) := by
  obtain ⟨t, ht⟩ : ∃ t, pushS s x = t := ⟨_, rfl⟩
  refine tri_run (con := [(fPush, cPush0 s x p), (fUp, cUp t), (fLen, cLen t)]) (hints := hintL [(fHPush, 1, 3, hv (iv (Int.ofNat 0)))]) (lc := []) [0, 1100, 1101, 1102] rfl (fun F _ => con_cons (cPush0_ok s x p F) (con_cons (cUp_ok t F) (con_cons (cLen_ok t F) noC))) (fun _ _ => noL) fun F => ?_
  have e1 : t.xs.length = 1 := by rw [← ht, push_len, h0]; rfl
  have hBt : Big t := by unfold Big; rw [e1]; decide
  have hw : IntKind.i64.wrap (Int.ofNat t.xs.length - Int.ofNat 1) = Int.ofNat 0 := by rw [e1]; rfl
  refine cast (congrArg (VAll _) (oHPush0_eq s t x p F).symm) ⟨⟨?_, uM_fits (by rw [hpushS, ht, h0]; rfl) (fun _ => rfl)⟩⟩
  have hsl : s.xs ++ [x] = t.xs := by rw [← ht]; rfl
  have htn : t.tn = s.tn := by rw [← ht]; rfl
  have htm : t.m = s.m := by rw [← ht]; rfl
  have htc : t.ck = s.ck := by rw [← ht]; rfl
  have hlt : 0 < t.xs.length := by omega
  simp only [Cnd.holds, rens_rowV, map_renE, ht, hsl, htn, htm, htc, true_and, and_true]
  and_intros
  all_goals first
    | exact h0
    | exact hBt
    | exact hlt
    | exact wk_int hw
    | exact OW.refl _
    | exact VW.refl _
end Go.Proofs.Ytojfbgmeaadanaa.Alm

/- Alarms: heap.Pop, heap.Remove: runs. -/
set_option linter.unusedVariables false
set_option linter.unusedSimpArgs false
set_option maxRecDepth 100000
namespace Go.Proofs.Ytojfbgmeaadanaa.Alm
open Go Go.RowKit Go.Proofs.Ytojfbgmeaadanaa.Eng Go.Proofs.Ytojfbgmeaadanaa.Kit
noncomputable section
def hHPop (n : Nat) : ClaimT := hintL [(fHPop, 1, 2, hv (iv (Int.ofNat (n - 1))))]
theorem oHPop_eq (s t d : Ps) (F : HP) : wRun [(fLen, cLen s), (fSwap, cSwap s), (fDown, cDown t), (fPop, cPop d)] (hHPop s.xs.length) [] default fHPop [hI] (uL s) [0, 1, 2, 3, 1100, 1101] F = VT.leaf (AV.iface 55 (AV.ptr 1100 0)) [some (AO.cells [AV.slice 1 0 d.xs.dropLast.length 1 (Cp.lo (roomOf (popS d))), AV.map 3, AV.v (Value.int IntKind.i64 d.tn)] 108), some (AO.cells (AV.rens (sgN (nmU 0 1 3) [1004, 1005] 1100) (rowV pv (blocks (popS d)))) 110), some (AO.any (famHP 57 (fam 0 d.xs.dropLast))), some (AO.map (renE (sgN (nmU 0 1 3) [1004, 1005] 1100) (mE ptrV d.m)) d.ck), some (AO.cells [AV.v (Value.int IntKind.i64 (lastOf d).c), AV.v (Value.int IntKind.i64 (lastOf d).a), AV.v (Value.int IntKind.i64 (lastOf d).b), AV.v (Value.int IntKind.i64 (Int.ofNat (d.xs.length - 1)))] 114), some (AO.same 1100 (lastOf d).k)] 1102 (((Cnd.p (true = true)).a ((Cnd.p True).a ((Cnd.p (VW [AV.slice 1 0 s.xs.length 1 (Cp.lo (roomOf s))] [AV.slice 1 0 s.xs.length 1 (Cp.lo (roomOf s))])).a ((Cnd.p (OW (AO.cells (rowV pv (blocks s)) 110) (AO.cells (AV.rens (nmR 1) (rowV pv (blocks s))) 110))).a ((Cnd.p (OW (AO.any (famHP 57 (fam 0 s.xs))) (AO.any (famHP 57 (fam 0 s.xs))))).a Cnd.t))))).a (((Cnd.p (Wk (AV.v (Value.int IntKind.i64 (IntKind.i64.wrap (Int.ofNat s.xs.length - Int.ofNat 1)))) (AV.v (Value.int IntKind.i64 (Int.ofNat (s.xs.length - 1)))))).a Cnd.t).a (((Cnd.p (true = true)).a ((Cnd.p (0 < s.xs.length ∧ (Int.ofNat (s.xs.length - 1)).toNat < s.xs.length)).a ((Cnd.p (VW [AV.slice 1 0 s.xs.length 1 (Cp.lo (roomOf s)), AV.v (Value.int IntKind.i64 (Int.ofNat 0)), AV.v (Value.int IntKind.i64 (Int.ofNat (s.xs.length - 1)))] [AV.slice 1 0 s.xs.length 1 (Cp.lo (roomOf s)), AV.v (Value.int IntKind.i64 (Int.ofNat 0)), AV.v (Value.int IntKind.i64 (Int.ofNat (Int.ofNat (s.xs.length - 1)).toNat))])).a ((Cnd.p (OW (AO.cells (AV.rens (sgN (nmR 1) [] 0) (rowV pv (blocks s))) 110) (AO.cells (AV.rens (nmR 1) (rowV pv (blocks s))) 110))).a ((Cnd.p (OW (AO.any (famHP 57 (fam 0 s.xs))) (AO.any (famHP 57 (fam 0 s.xs))))).a Cnd.t))))).a (((Cnd.p (Big t ∧ (Int.ofNat (s.xs.length - 1)).toNat ≤ t.xs.length ∧ 0 ≤ t.xs.length)).a ((Cnd.p (VW [AV.iface 59 (AV.ptr 0 0), AV.v (Value.int IntKind.i64 (Int.ofNat 0)), AV.v (Value.int IntKind.i64 (Int.ofNat (s.xs.length - 1)))] [AV.iface 59 (AV.ptr 0 0), AV.v (Value.int IntKind.i64 (Int.ofNat 0)), AV.v (Value.int IntKind.i64 (Int.ofNat (Int.ofNat (s.xs.length - 1)).toNat))])).a ((Cnd.p (OW (AO.cells [AV.slice 1 0 s.xs.length 1 (Cp.lo (roomOf s)), AV.map 3, AV.v (Value.int IntKind.i64 s.tn)] 108) (AO.cells [AV.slice 1 0 t.xs.length 1 (Cp.lo (roomOf t)), AV.map 3, AV.v (Value.int IntKind.i64 t.tn)] 108))).a ((Cnd.p (OW (AO.cells (AV.rens (sgN (nmR 1) [] 0) (rowV pv (blocks (swapS s 0 (Int.ofNat (s.xs.length - 1)).toNat)))) 110) (AO.cells (AV.rens (nmU 0 1 3) (rowV pv (blocks t))) 110))).a ((Cnd.p (OW (AO.any (famHP 57 (fam 0 ((s.xs.set 0 (at' s (Int.ofNat (s.xs.length - 1)).toNat)).set (Int.ofNat (s.xs.length - 1)).toNat (at' s 0))))) (AO.any (famHP 57 (fam 0 t.xs))))).a ((Cnd.p (OW (AO.map (mE ptrV s.m) s.ck) (AO.map (renE (nmU 0 1 3) (mE ptrV t.m)) t.ck))).a Cnd.t)))))).a (((Cnd.p (0 < d.xs.length ∧ d.xs.length ≤ 9223372036854775807)).a ((Cnd.p (VW [AV.ptr 0 0] [AV.ptr 0 0])).a ((Cnd.p (OW (AO.cells [AV.slice 1 0 (downS t 0 (Int.ofNat (s.xs.length - 1)).toNat).fst.xs.length 1 (Cp.lo (roomOf (downS t 0 (Int.ofNat (s.xs.length - 1)).toNat).fst)), AV.map 3, AV.v (Value.int IntKind.i64 (downS t 0 (Int.ofNat (s.xs.length - 1)).toNat).fst.tn)] 108) (AO.cells [AV.slice 1 0 d.xs.length 1 (Cp.lo (roomOf d)), AV.map 3, AV.v (Value.int IntKind.i64 d.tn)] 108))).a ((Cnd.p (OW (AO.cells (AV.rens (sgN (nmU 0 1 3) [] 0) (rowV pv (blocks (downS t 0 (Int.ofNat (s.xs.length - 1)).toNat).fst))) 110) (AO.cells (AV.rens (nmU 0 1 3) (rowV pv (blocks d))) 110))).a ((Cnd.p (OW (AO.any (famHP 57 (fam 0 (downS t 0 (Int.ofNat (s.xs.length - 1)).toNat).fst.xs))) (AO.any (famHP 57 (fam 0 d.xs))))).a ((Cnd.p (OW (AO.map (renE (sgN (nmU 0 1 3) [] 0) (mE ptrV (downS t 0 (Int.ofNat (s.xs.length - 1)).toNat).fst.m)) (downS t 0 (Int.ofNat (s.xs.length - 1)).toNat).fst.ck) (AO.map (renE (nmU 0 1 3) (mE ptrV d.m)) d.ck))).a Cnd.t)))))).a Cnd.t))))) := by kernel_rfl
def hRem (n : Nat) : ClaimT := hintL [(fHRem, 1, 2, hv (iv (Int.ofNat (n - 1)))), (fHRem, 2, 2, hv (.lit false))]
def hRemB (n : Nat) (b : Bool) : ClaimT := hintL [(fHRem, 1, 2, hv (iv (Int.ofNat (n - 1)))), (fHRem, 2, 2, hv (.lit true)), (fHRem, 4, 4, hv (.lit b))]
theorem oHRem1_eq (s : Ps) (i : Nat) (F : HP) : wRun [(fLen, cLen s), (fPop, cPop s)] (hRem s.xs.length) [] default fHRem [hI, iv (Int.ofNat i)] (uL s) [0, 1, 2, 3, 1100, 1101] F = VT.leaf (AV.iface 55 (AV.ptr 1100 0)) [some (AO.cells [AV.slice 1 0 s.xs.dropLast.length 1 (Cp.lo (roomOf (popS s))), AV.map 3, AV.v (Value.int IntKind.i64 s.tn)] 108), some (AO.cells (AV.rens (sgN (nmU 0 1 3) [1004, 1005] 1100) (rowV pv (blocks (popS s)))) 110), some (AO.any (famHP 57 (fam 0 s.xs.dropLast))), some (AO.map (renE (sgN (nmU 0 1 3) [1004, 1005] 1100) (mE ptrV s.m)) s.ck), some (AO.cells [AV.v (Value.int IntKind.i64 (lastOf s).c), AV.v (Value.int IntKind.i64 (lastOf s).a), AV.v (Value.int IntKind.i64 (lastOf s).b), AV.v (Value.int IntKind.i64 (Int.ofNat (s.xs.length - 1)))] 114), some (AO.same 1100 (lastOf s).k)] 1102 (((Cnd.p (true = true)).a ((Cnd.p True).a ((Cnd.p (VW [AV.slice 1 0 s.xs.length 1 (Cp.lo (roomOf s))] [AV.slice 1 0 s.xs.length 1 (Cp.lo (roomOf s))])).a ((Cnd.p (OW (AO.cells (rowV pv (blocks s)) 110) (AO.cells (AV.rens (nmR 1) (rowV pv (blocks s))) 110))).a ((Cnd.p (OW (AO.any (famHP 57 (fam 0 s.xs))) (AO.any (famHP 57 (fam 0 s.xs))))).a Cnd.t))))).a (((Cnd.p (Wk (AV.v (Value.int IntKind.i64 (IntKind.i64.wrap (Int.ofNat s.xs.length - Int.ofNat 1)))) (AV.v (Value.int IntKind.i64 (Int.ofNat (s.xs.length - 1)))))).a Cnd.t).a (((Cnd.p (Wk (AV.v (Value.bool (Int.ofNat (s.xs.length - 1) != Int.ofNat i))) (AV.lit false))).a Cnd.t).a (((Cnd.p (0 < s.xs.length ∧ s.xs.length ≤ 9223372036854775807)).a ((Cnd.p (VW [AV.ptr 0 0] [AV.ptr 0 0])).a ((Cnd.p (OW (AO.cells [AV.slice 1 0 s.xs.length 1 (Cp.lo (roomOf s)), AV.map 3, AV.v (Value.int IntKind.i64 s.tn)] 108) (AO.cells [AV.slice 1 0 s.xs.length 1 (Cp.lo (roomOf s)), AV.map 3, AV.v (Value.int IntKind.i64 s.tn)] 108))).a ((Cnd.p (OW (AO.cells (AV.rens (sgN (nmR 1) [] 0) (rowV pv (blocks s))) 110) (AO.cells (AV.rens (nmU 0 1 3) (rowV pv (blocks s))) 110))).a ((Cnd.p (OW (AO.any (famHP 57 (fam 0 s.xs))) (AO.any (famHP 57 (fam 0 s.xs))))).a ((Cnd.p (OW (AO.map (mE ptrV s.m) s.ck) (AO.map (renE (nmU 0 1 3) (mE ptrV s.m)) s.ck))).a Cnd.t)))))).a Cnd.t)))) := by kernel_rfl
theorem oHRem2_eq (s t d : Ps) (i : Nat) (F : HP) : wRun [(fLen, cLen s), (fSwap, cSwap s), (fDown, cDown t), (fPop, cPop d)] (hRemB s.xs.length false) [] default fHRem [hI, iv (Int.ofNat i)] (uL s) [0, 1, 2, 3, 1100, 1101] F = VT.leaf (AV.iface 55 (AV.ptr 1100 0)) [some (AO.cells [AV.slice 1 0 d.xs.dropLast.length 1 (Cp.lo (roomOf (popS d))), AV.map 3, AV.v (Value.int IntKind.i64 d.tn)] 108), some (AO.cells (AV.rens (sgN (nmU 0 1 3) [1004, 1005] 1100) (rowV pv (blocks (popS d)))) 110), some (AO.any (famHP 57 (fam 0 d.xs.dropLast))), some (AO.map (renE (sgN (nmU 0 1 3) [1004, 1005] 1100) (mE ptrV d.m)) d.ck), some (AO.cells [AV.v (Value.int IntKind.i64 (lastOf d).c), AV.v (Value.int IntKind.i64 (lastOf d).a), AV.v (Value.int IntKind.i64 (lastOf d).b), AV.v (Value.int IntKind.i64 (Int.ofNat (d.xs.length - 1)))] 114), some (AO.same 1100 (lastOf d).k)] 1102 (((Cnd.p (true = true)).a ((Cnd.p True).a ((Cnd.p (VW [AV.slice 1 0 s.xs.length 1 (Cp.lo (roomOf s))] [AV.slice 1 0 s.xs.length 1 (Cp.lo (roomOf s))])).a ((Cnd.p (OW (AO.cells (rowV pv (blocks s)) 110) (AO.cells (AV.rens (nmR 1) (rowV pv (blocks s))) 110))).a ((Cnd.p (OW (AO.any (famHP 57 (fam 0 s.xs))) (AO.any (famHP 57 (fam 0 s.xs))))).a Cnd.t))))).a (((Cnd.p (Wk (AV.v (Value.int IntKind.i64 (IntKind.i64.wrap (Int.ofNat s.xs.length - Int.ofNat 1)))) (AV.v (Value.int IntKind.i64 (Int.ofNat (s.xs.length - 1)))))).a Cnd.t).a (((Cnd.p (Wk (AV.v (Value.bool (Int.ofNat (s.xs.length - 1) != Int.ofNat i))) (AV.lit true))).a Cnd.t).a (((Cnd.p (true = true)).a ((Cnd.p (i < s.xs.length ∧ (Int.ofNat (s.xs.length - 1)).toNat < s.xs.length)).a ((Cnd.p (VW [AV.slice 1 0 s.xs.length 1 (Cp.lo (roomOf s)), AV.v (Value.int IntKind.i64 (Int.ofNat i)), AV.v (Value.int IntKind.i64 (Int.ofNat (s.xs.length - 1)))] [AV.slice 1 0 s.xs.length 1 (Cp.lo (roomOf s)), AV.v (Value.int IntKind.i64 (Int.ofNat i)), AV.v (Value.int IntKind.i64 (Int.ofNat (Int.ofNat (s.xs.length - 1)).toNat))])).a ((Cnd.p (OW (AO.cells (AV.rens (sgN (nmR 1) [] 0) (rowV pv (blocks s))) 110) (AO.cells (AV.rens (nmR 1) (rowV pv (blocks s))) 110))).a ((Cnd.p (OW (AO.any (famHP 57 (fam 0 s.xs))) (AO.any (famHP 57 (fam 0 s.xs))))).a Cnd.t))))).a (((Cnd.p (Big t ∧ (Int.ofNat (s.xs.length - 1)).toNat ≤ t.xs.length ∧ i ≤ t.xs.length)).a ((Cnd.p (VW [AV.iface 59 (AV.ptr 0 0), AV.v (Value.int IntKind.i64 (Int.ofNat i)), AV.v (Value.int IntKind.i64 (Int.ofNat (s.xs.length - 1)))] [AV.iface 59 (AV.ptr 0 0), AV.v (Value.int IntKind.i64 (Int.ofNat i)), AV.v (Value.int IntKind.i64 (Int.ofNat (Int.ofNat (s.xs.length - 1)).toNat))])).a ((Cnd.p (OW (AO.cells [AV.slice 1 0 s.xs.length 1 (Cp.lo (roomOf s)), AV.map 3, AV.v (Value.int IntKind.i64 s.tn)] 108) (AO.cells [AV.slice 1 0 t.xs.length 1 (Cp.lo (roomOf t)), AV.map 3, AV.v (Value.int IntKind.i64 t.tn)] 108))).a ((Cnd.p (OW (AO.cells (AV.rens (sgN (nmR 1) [] 0) (rowV pv (blocks (swapS s i (Int.ofNat (s.xs.length - 1)).toNat)))) 110) (AO.cells (AV.rens (nmU 0 1 3) (rowV pv (blocks t))) 110))).a ((Cnd.p (OW (AO.any (famHP 57 (fam 0 ((s.xs.set i (at' s (Int.ofNat (s.xs.length - 1)).toNat)).set (Int.ofNat (s.xs.length - 1)).toNat (at' s i))))) (AO.any (famHP 57 (fam 0 t.xs))))).a ((Cnd.p (OW (AO.map (mE ptrV s.m) s.ck) (AO.map (renE (nmU 0 1 3) (mE ptrV t.m)) t.ck))).a Cnd.t)))))).a (((Cnd.p (Wk (AV.v (Value.bool !decide (i < (downS t i (Int.ofNat (s.xs.length - 1)).toNat).snd))) (AV.lit false))).a Cnd.t).a (((Cnd.p (0 < d.xs.length ∧ d.xs.length ≤ 9223372036854775807)).a ((Cnd.p (VW [AV.ptr 0 0] [AV.ptr 0 0])).a ((Cnd.p (OW (AO.cells [AV.slice 1 0 (downS t i (Int.ofNat (s.xs.length - 1)).toNat).fst.xs.length 1 (Cp.lo (roomOf (downS t i (Int.ofNat (s.xs.length - 1)).toNat).fst)), AV.map 3, AV.v (Value.int IntKind.i64 (downS t i (Int.ofNat (s.xs.length - 1)).toNat).fst.tn)] 108) (AO.cells [AV.slice 1 0 d.xs.length 1 (Cp.lo (roomOf d)), AV.map 3, AV.v (Value.int IntKind.i64 d.tn)] 108))).a ((Cnd.p (OW (AO.cells (AV.rens (sgN (nmU 0 1 3) [] 0) (rowV pv (blocks (downS t i (Int.ofNat (s.xs.length - 1)).toNat).fst))) 110) (AO.cells (AV.rens (nmU 0 1 3) (rowV pv (blocks d))) 110))).a ((Cnd.p (OW (AO.any (famHP 57 (fam 0 (downS t i (Int.ofNat (s.xs.length - 1)).toNat).fst.xs))) (AO.any (famHP 57 (fam 0 d.xs))))).a ((Cnd.p (OW (AO.map (renE (sgN (nmU 0 1 3) [] 0) (mE ptrV (downS t i (Int.ofNat (s.xs.length - 1)).toNat).fst.m)) (downS t i (Int.ofNat (s.xs.length - 1)).toNat).fst.ck) (AO.map (renE (nmU 0 1 3) (mE ptrV d.m)) d.ck))).a Cnd.t)))))).a Cnd.t))))))) := by kernel_rfl
theorem oHRem3_eq (s t d u : Ps) (i : Nat) (F : HP) : wRun [(fLen, cLen s), (fSwap, cSwap s), (fDown, cDown t), (fUp, cUp d), (fPop, cPop u)] (hRemB s.xs.length true) [] default fHRem [hI, iv (Int.ofNat i)] (uL s) [0, 1, 2, 3, 1100, 1101] F = VT.leaf (AV.iface 55 (AV.ptr 1100 0)) [some (AO.cells [AV.slice 1 0 u.xs.dropLast.length 1 (Cp.lo (roomOf (popS u))), AV.map 3, AV.v (Value.int IntKind.i64 u.tn)] 108), some (AO.cells (AV.rens (sgN (nmU 0 1 3) [1004, 1005] 1100) (rowV pv (blocks (popS u)))) 110), some (AO.any (famHP 57 (fam 0 u.xs.dropLast))), some (AO.map (renE (sgN (nmU 0 1 3) [1004, 1005] 1100) (mE ptrV u.m)) u.ck), some (AO.cells [AV.v (Value.int IntKind.i64 (lastOf u).c), AV.v (Value.int IntKind.i64 (lastOf u).a), AV.v (Value.int IntKind.i64 (lastOf u).b), AV.v (Value.int IntKind.i64 (Int.ofNat (u.xs.length - 1)))] 114), some (AO.same 1100 (lastOf u).k)] 1102 (((Cnd.p (true = true)).a ((Cnd.p True).a ((Cnd.p (VW [AV.slice 1 0 s.xs.length 1 (Cp.lo (roomOf s))] [AV.slice 1 0 s.xs.length 1 (Cp.lo (roomOf s))])).a ((Cnd.p (OW (AO.cells (rowV pv (blocks s)) 110) (AO.cells (AV.rens (nmR 1) (rowV pv (blocks s))) 110))).a ((Cnd.p (OW (AO.any (famHP 57 (fam 0 s.xs))) (AO.any (famHP 57 (fam 0 s.xs))))).a Cnd.t))))).a (((Cnd.p (Wk (AV.v (Value.int IntKind.i64 (IntKind.i64.wrap (Int.ofNat s.xs.length - Int.ofNat 1)))) (AV.v (Value.int IntKind.i64 (Int.ofNat (s.xs.length - 1)))))).a Cnd.t).a (((Cnd.p (Wk (AV.v (Value.bool (Int.ofNat (s.xs.length - 1) != Int.ofNat i))) (AV.lit true))).a Cnd.t).a (((Cnd.p (true = true)).a ((Cnd.p (i < s.xs.length ∧ (Int.ofNat (s.xs.length - 1)).toNat < s.xs.length)).a ((Cnd.p (VW [AV.slice 1 0 s.xs.length 1 (Cp.lo (roomOf s)), AV.v (Value.int IntKind.i64 (Int.ofNat i)), AV.v (Value.int IntKind.i64 (Int.ofNat (s.xs.length - 1)))] [AV.slice 1 0 s.xs.length 1 (Cp.lo (roomOf s)), AV.v (Value.int IntKind.i64 (Int.ofNat i)), AV.v (Value.int IntKind.i64 (Int.ofNat (Int.ofNat (s.xs.length - 1)).toNat))])).a ((Cnd.p (OW (AO.cells (AV.rens (sgN (nmR 1) [] 0) (rowV pv (blocks s))) 110) (AO.cells (AV.rens (nmR 1) (rowV pv (blocks s))) 110))).a ((Cnd.p (OW (AO.any (famHP 57 (fam 0 s.xs))) (AO.any (famHP 57 (fam 0 s.xs))))).a Cnd.t))))).a (((Cnd.p (Big t ∧ (Int.ofNat (s.xs.length - 1)).toNat ≤ t.xs.length ∧ i ≤ t.xs.length)).a ((Cnd.p (VW [AV.iface 59 (AV.ptr 0 0), AV.v (Value.int IntKind.i64 (Int.ofNat i)), AV.v (Value.int IntKind.i64 (Int.ofNat (s.xs.length - 1)))] [AV.iface 59 (AV.ptr 0 0), AV.v (Value.int IntKind.i64 (Int.ofNat i)), AV.v (Value.int IntKind.i64 (Int.ofNat (Int.ofNat (s.xs.length - 1)).toNat))])).a ((Cnd.p (OW (AO.cells [AV.slice 1 0 s.xs.length 1 (Cp.lo (roomOf s)), AV.map 3, AV.v (Value.int IntKind.i64 s.tn)] 108) (AO.cells [AV.slice 1 0 t.xs.length 1 (Cp.lo (roomOf t)), AV.map 3, AV.v (Value.int IntKind.i64 t.tn)] 108))).a ((Cnd.p (OW (AO.cells (AV.rens (sgN (nmR 1) [] 0) (rowV pv (blocks (swapS s i (Int.ofNat (s.xs.length - 1)).toNat)))) 110) (AO.cells (AV.rens (nmU 0 1 3) (rowV pv (blocks t))) 110))).a ((Cnd.p (OW (AO.any (famHP 57 (fam 0 ((s.xs.set i (at' s (Int.ofNat (s.xs.length - 1)).toNat)).set (Int.ofNat (s.xs.length - 1)).toNat (at' s i))))) (AO.any (famHP 57 (fam 0 t.xs))))).a ((Cnd.p (OW (AO.map (mE ptrV s.m) s.ck) (AO.map (renE (nmU 0 1 3) (mE ptrV t.m)) t.ck))).a Cnd.t)))))).a (((Cnd.p (Wk (AV.v (Value.bool !decide (i < (downS t i (Int.ofNat (s.xs.length - 1)).toNat).snd))) (AV.lit true))).a Cnd.t).a (((Cnd.p (Big d ∧ i < d.xs.length)).a ((Cnd.p (VW [AV.iface 59 (AV.ptr 0 0), AV.v (Value.int IntKind.i64 (Int.ofNat i))] [AV.iface 59 (AV.ptr 0 0), AV.v (Value.int IntKind.i64 (Int.ofNat i))])).a ((Cnd.p (OW (AO.cells [AV.slice 1 0 (downS t i (Int.ofNat (s.xs.length - 1)).toNat).fst.xs.length 1 (Cp.lo (roomOf (downS t i (Int.ofNat (s.xs.length - 1)).toNat).fst)), AV.map 3, AV.v (Value.int IntKind.i64 (downS t i (Int.ofNat (s.xs.length - 1)).toNat).fst.tn)] 108) (AO.cells [AV.slice 1 0 d.xs.length 1 (Cp.lo (roomOf d)), AV.map 3, AV.v (Value.int IntKind.i64 d.tn)] 108))).a ((Cnd.p (OW (AO.cells (AV.rens (sgN (nmU 0 1 3) [] 0) (rowV pv (blocks (downS t i (Int.ofNat (s.xs.length - 1)).toNat).fst))) 110) (AO.cells (AV.rens (nmU 0 1 3) (rowV pv (blocks d))) 110))).a ((Cnd.p (OW (AO.any (famHP 57 (fam 0 (downS t i (Int.ofNat (s.xs.length - 1)).toNat).fst.xs))) (AO.any (famHP 57 (fam 0 d.xs))))).a ((Cnd.p (OW (AO.map (renE (sgN (nmU 0 1 3) [] 0) (mE ptrV (downS t i (Int.ofNat (s.xs.length - 1)).toNat).fst.m)) (downS t i (Int.ofNat (s.xs.length - 1)).toNat).fst.ck) (AO.map (renE (nmU 0 1 3) (mE ptrV d.m)) d.ck))).a Cnd.t)))))).a (((Cnd.p (0 < u.xs.length ∧ u.xs.length ≤ 9223372036854775807)).a ((Cnd.p (VW [AV.ptr 0 0] [AV.ptr 0 0])).a ((Cnd.p (OW (AO.cells [AV.slice 1 0 (upS d i).xs.length 1 (Cp.lo (roomOf (upS d i))), AV.map 3, AV.v (Value.int IntKind.i64 (upS d i).tn)] 108) (AO.cells [AV.slice 1 0 u.xs.length 1 (Cp.lo (roomOf u)), AV.map 3, AV.v (Value.int IntKind.i64 u.tn)] 108))).a ((Cnd.p (OW (AO.cells (AV.rens (sgN (nmU 0 1 3) [] 0) (rowV pv (blocks (upS d i)))) 110) (AO.cells (AV.rens (nmU 0 1 3) (rowV pv (blocks u))) 110))).a ((Cnd.p (OW (AO.any (famHP 57 (fam 0 (upS d i).xs))) (AO.any (famHP 57 (fam 0 u.xs))))).a ((Cnd.p (OW (AO.map (renE (sgN (nmU 0 1 3) [] 0) (mE ptrV (upS d i).m)) (upS d i).ck) (AO.map (renE (nmU 0 1 3) (mE ptrV u.m)) u.ck))).a Cnd.t)))))).a Cnd.t)))))))) := by kernel_rfl
end
end Go.Proofs.Ytojfbgmeaadanaa.Alm

/- Alarms: heap.Pop, heap.Remove. -/
set_option linter.unusedVariables false
set_option linter.unusedSimpArgs false
set_option maxRecDepth 100000
namespace Go.Proofs.Ytojfbgmeaadanaa.Alm
open Go Go.RowKit Go.Proofs.Ytojfbgmeaadanaa.Eng Go.Proofs.Ytojfbgmeaadanaa.Kit
/-- What the heap's walks leave as it was. -/
structure Keep (s s' : Ps) : Prop where
  len : s'.xs.length = s.xs.length
  g : s'.g = s.g
  m : s'.m = s.m
  ck : s'.ck = s.ck
  tn : s'.tn = s.tn
theorem Keep.refl (s : Ps) : Keep s s := ⟨rfl, rfl, rfl, rfl, rfl⟩
theorem Keep.trans {s s' s'' : Ps} (h : Keep s s') (h' : Keep s' s'') : Keep s s'' := ⟨h'.len.trans h.len, h'.g.trans h.g, h'.m.trans h.m, h'.ck.trans h.ck, h'.tn.trans h.tn⟩
theorem Keep.room {s s' : Ps} (h : Keep s s') : roomOf s' = roomOf s := by simp only [roomOf, h.len, h.g]
theorem Keep.big {s s' : Ps} (h : Keep s s') (hB : Big s) : Big s' := by unfold Big; rw [h.len]; exact hB
theorem swap_keep (s : Ps) (i j : Nat) : Keep s (swapS s i j) := ⟨swap_len s i j, rfl, rfl, rfl, rfl⟩
theorem up_keep : ∀ (j : Nat) (s : Ps), Keep s (upS s j) := by
  intro j
  induction j using Nat.strongRecOn with
  | ind j ih =>
    intro s
    rw [upS]
    split
    · exact Keep.refl s
    · split
      · exact (swap_keep s _ _).trans (ih _ (by omega) _)
      · exact Keep.refl s
theorem down_keep (n : Nat) : ∀ (d : Nat) (s : Ps) (i : Nat), n - i ≤ d → Keep s (downS s i n).1 := by
  intro d
  induction d with
  | zero => intro s i hd; rw [downS, dif_pos (by omega)]; exact Keep.refl s
  | succ d ih =>
    intro s i hd
    rw [downS]
    split
    · exact Keep.refl s
    · split
      · have := downJ_gt s i n
        exact (swap_keep s _ _).trans (ih _ _ (by omega))
      · exact Keep.refl s
theorem down_keeps (s : Ps) (i n : Nat) : Keep s (downS s i n).1 := down_keep n _ s i (Nat.le_refl _)
theorem ow_hdr {s s' : Ps} (h : Keep s s') (r m : Nat) : OW (hdr r m s.xs.length (roomOf s) s.tn) (hdr r m s'.xs.length (roomOf s') s'.tn) := OW.of_eq (by rw [h.len, h.room, h.tn])
theorem pop_fits {s : Ps} {σ1 σ2 : Nat → Nat} : Fits [0, 1, 2, 3, 1100, 1101] [.iface 55 (.ptr 1100 0)] [some (hdr 1 3 (popS s).xs.length (roomOf (popS s)) s.tn), some (.cells (AV.rens σ1 (rowV pv (blocks (popS s)))) tPtr), some (famO (fam 0 (popS s).xs)), some (.map (renE σ2 (mE ptrV s.m)) s.ck), some (alO (lastOf s) (s.xs.length - 1)), some (.same 1100 (lastOf s).k)] [alP] (uL (popS s) ++ outL (lastOf s) (s.xs.length - 1)) := by
  rw [rens_rowV, map_renE]
  exact (fit_mk (vs := [.iface 55 (.ptr 1100 0)]) (vs' := [alP]) (H' := uL (popS s) ++ outL (lastOf s) (s.xs.length - 1)) [(1004, 1100), (1005, 1101)] (by kernel_rfl) (by kernel_rfl) (VW.refl _)
    ⟨⟨_, rfl, OW.refl _⟩, ⟨_, rfl, OW.of_eq (calm_row _ _).symm⟩, ⟨_, rfl, OW.refl _⟩, ⟨_, rfl, OW.of_eq (map_ren s _).symm⟩, ⟨_, rfl, OW.refl _⟩, ⟨_, rfl, OW.refl _⟩, trivial⟩).fits rfl
theorem pred_wrap (n : Nat) (h0 : 0 < n) (h : n ≤ 9382499223688) : IntKind.i64.wrap (Int.ofNat n - Int.ofNat 1) = Int.ofNat (n - 1) := by
  obtain ⟨k, rfl⟩ : ∃ k, n = k + 1 := ⟨n - 1, by omega⟩
  exact len_down k (by omega)
def hpopT (s : Ps) : Ps := swapS s 0 (s.xs.length - 1)
theorem hpop_tri (s : Ps) (hB : Big s) (h0 : 0 < s.xs.length) : Tri Try.prog default fHPop [hI] (uL s) alP (uL (popS (hpopD s)) ++ outL (lastOf (hpopD s)) ((hpopD s).xs.length - 1)) := by
  refine tri_run (con := [(fLen, cLen s), (fSwap, cSwap s), (fDown, cDown (hpopT s)), (fPop, cPop (hpopD s))]) (hints := hHPop s.xs.length) (lc := []) [0, 1, 2, 3, 1100, 1101] rfl
    (fun F _ => con_cons (cLen_ok s F) (con_cons (cSwap_ok s F) (con_cons (cDown_ok _ F) (con_cons (cPop_ok _ F) noC)))) (fun _ _ => noL) fun F => ?_
  have hle := hB.le
  have hw := pred_wrap s.xs.length h0 hle
  have k1 : Keep s (hpopT s) := swap_keep ..
  have k2 : Keep (hpopT s) (hpopD s) := down_keeps ..
  have l1 : s.xs.length - 1 < s.xs.length := by omega
  have l2 : s.xs.length - 1 ≤ (hpopT s).xs.length := by rw [k1.len]; omega
  have l3 : 0 < (hpopD s).xs.length := by rw [k2.len, k1.len]; exact h0
  have l4 : (hpopD s).xs.length ≤ 9223372036854775807 := by rw [k2.len, k1.len]; omega
  refine cast (congrArg (VAll _) (oHPop_eq s (hpopT s) (hpopD s) F).symm) ⟨⟨?_, pop_fits⟩⟩
  simp only [Cnd.holds, rens_rowV, map_renE, true_and, and_true]
  and_intros
  all_goals first
    | exact k1.big hB
    | exact h0
    | exact l1
    | exact l2
    | exact l3
    | exact l4
    | exact Nat.zero_le _
    | exact wk_int hw
    | exact VW.refl _
    | exact OW.refl _
    | exact ow_hdr k1 1 3
/-! heap.Remove: three ways. -/
theorem hrem1_tri (s : Ps) (i : Nat) (hB : Big s) (hi : i + 1 = s.xs.length) : Tri Try.prog default fHRem [hI, iv (Int.ofNat i)] (uL s) alP (uL (popS s) ++ outL (lastOf s) (s.xs.length - 1)) := by
  refine tri_run (con := [(fLen, cLen s), (fPop, cPop s)]) (hints := hRem s.xs.length) (lc := []) [0, 1, 2, 3, 1100, 1101] rfl
    (fun F _ => con_cons (cLen_ok s F) (con_cons (cPop_ok _ F) noC)) (fun _ _ => noL) fun F => ?_
  have hle := hB.le
  have h0 : 0 < s.xs.length := by omega
  have hw := pred_wrap s.xs.length h0 hle
  have l4 : s.xs.length ≤ 9223372036854775807 := by omega
  have hne : (Int.ofNat (s.xs.length - 1) != Int.ofNat i) = false := by
    rw [show s.xs.length - 1 = i by omega]; simp
  refine cast (congrArg (VAll _) (oHRem1_eq s i F).symm) ⟨⟨?_, pop_fits⟩⟩
  simp only [Cnd.holds, rens_rowV, map_renE, true_and, and_true]
  and_intros
  all_goals first
    | exact h0
    | exact l4
    | exact wk_litE hne
    | exact wk_int hw
    | exact VW.refl _
    | exact OW.refl _
def hremT (s : Ps) (i : Nat) : Ps := swapS s i (s.xs.length - 1)
def hremD (s : Ps) (i : Nat) : Ps := (downS (hremT s i) i (s.xs.length - 1)).1
theorem hrem2_tri (s : Ps) (i : Nat) (hB : Big s) (hi : i + 1 < s.xs.length) (hd : i < (downS (hremT s i) i (s.xs.length - 1)).2) : Tri Try.prog default fHRem [hI, iv (Int.ofNat i)] (uL s) alP (uL (popS (hremD s i)) ++ outL (lastOf (hremD s i)) ((hremD s i).xs.length - 1)) := by
  refine tri_run (con := [(fLen, cLen s), (fSwap, cSwap s), (fDown, cDown (hremT s i)), (fPop, cPop (hremD s i))]) (hints := hRemB s.xs.length false) (lc := []) [0, 1, 2, 3, 1100, 1101] rfl
    (fun F _ => con_cons (cLen_ok s F) (con_cons (cSwap_ok s F) (con_cons (cDown_ok _ F) (con_cons (cPop_ok _ F) noC)))) (fun _ _ => noL) fun F => ?_
  have hle := hB.le
  have h0 : 0 < s.xs.length := by omega
  have hw := pred_wrap s.xs.length h0 hle
  have k1 : Keep s (hremT s i) := swap_keep ..
  have k2 : Keep (hremT s i) (hremD s i) := down_keeps ..
  have l0 : i < s.xs.length := by omega
  have l1 : s.xs.length - 1 < s.xs.length := by omega
  have l2 : s.xs.length - 1 ≤ (hremT s i).xs.length := by rw [k1.len]; omega
  have l5 : i ≤ (hremT s i).xs.length := by rw [k1.len]; omega
  have l3 : 0 < (hremD s i).xs.length := by rw [k2.len, k1.len]; exact h0
  have l4 : (hremD s i).xs.length ≤ 9223372036854775807 := by rw [k2.len, k1.len]; omega
  have hne : (Int.ofNat (s.xs.length - 1) != Int.ofNat i) = true := by
    apply bne_iff_ne.2; simp only [Int.ofNat_eq_natCast]; omega
  have hdn : (!decide (i < (downS (hremT s i) i (s.xs.length - 1)).2)) = false := by simp [hd]
  refine cast (congrArg (VAll _) (oHRem2_eq s (hremT s i) (hremD s i) i F).symm) ⟨⟨?_, pop_fits⟩⟩
  simp only [Cnd.holds, rens_rowV, map_renE, true_and, and_true]
  and_intros
  all_goals first
    | exact k1.big hB
    | exact l0
    | exact l1
    | exact l2
    | exact l3
    | exact l4
    | exact l5
    | exact wk_litE hne
    | exact wk_litE hdn
    | exact wk_int hw
    | exact VW.refl _
    | exact OW.refl _
    | exact ow_hdr k1 1 3
def hremU (s : Ps) (i : Nat) : Ps := upS (hremD s i) i
theorem hrem3_tri (s : Ps) (i : Nat) (hB : Big s) (hi : i + 1 < s.xs.length) (hd : ¬ i < (downS (hremT s i) i (s.xs.length - 1)).2) : Tri Try.prog default fHRem [hI, iv (Int.ofNat i)] (uL s) alP (uL (popS (hremU s i)) ++ outL (lastOf (hremU s i)) ((hremU s i).xs.length - 1)) := by
  refine tri_run (con := [(fLen, cLen s), (fSwap, cSwap s), (fDown, cDown (hremT s i)), (fUp, cUp (hremD s i)), (fPop, cPop (hremU s i))]) (hints := hRemB s.xs.length true) (lc := []) [0, 1, 2, 3, 1100, 1101] rfl
    (fun F _ => con_cons (cLen_ok s F) (con_cons (cSwap_ok s F) (con_cons (cDown_ok _ F) (con_cons (cUp_ok _ F) (con_cons (cPop_ok _ F) noC))))) (fun _ _ => noL) fun F => ?_
  have hle := hB.le
  have h0 : 0 < s.xs.length := by omega
  have hw := pred_wrap s.xs.length h0 hle
  have k1 : Keep s (hremT s i) := swap_keep ..
  have k2 : Keep (hremT s i) (hremD s i) := down_keeps ..
  have k3 : Keep (hremD s i) (hremU s i) := up_keep ..
  have l0 : i < s.xs.length := by omega
  have l1 : s.xs.length - 1 < s.xs.length := by omega
  have l2 : s.xs.length - 1 ≤ (hremT s i).xs.length := by rw [k1.len]; omega
  have l5 : i ≤ (hremT s i).xs.length := by rw [k1.len]; omega
  have l6 : i < (hremD s i).xs.length := by rw [k2.len, k1.len]; omega
  have l3 : 0 < (hremU s i).xs.length := by rw [k3.len, k2.len, k1.len]; exact h0
  have l4 : (hremU s i).xs.length ≤ 9223372036854775807 := by rw [k3.len, k2.len, k1.len]; omega
  have hne : (Int.ofNat (s.xs.length - 1) != Int.ofNat i) = true := by
    apply bne_iff_ne.2; simp only [Int.ofNat_eq_natCast]; omega
  have hdn : (!decide (i < (downS (hremT s i) i (s.xs.length - 1)).2)) = true := by simp [hd]
  refine cast (congrArg (VAll _) (oHRem3_eq s (hremT s i) (hremD s i) (hremU s i) i F).symm) ⟨⟨?_, pop_fits⟩⟩
  simp only [Cnd.holds, rens_rowV, map_renE, true_and, and_true]
  and_intros
  all_goals first
    | exact k1.big hB
    | exact k2.big (k1.big hB)
    | exact l0
    | exact l1
    | exact l2
    | exact l3
    | exact l4
    | exact l5
    | exact l6
    | exact wk_litE hne
    | exact wk_litE hdn
    | exact wk_int hw
    | exact VW.refl _
    | exact OW.refl _
    | exact ow_hdr k1 1 3
end Go.Proofs.Ytojfbgmeaadanaa.Alm

/- Alarms: the plain law of container/heap. -/
set_option linter.unusedVariables false
set_option linter.unusedSimpArgs false
namespace Go.Proofs.Ytojfbgmeaadanaa.Alm
open Go Go.RowKit Go.Proofs.Ytojfbgmeaadanaa.Eng Go.Proofs.Ytojfbgmeaadanaa.Kit
theorem swap_at_i (s : Ps) (i j : Nat) (hi : i < s.xs.length) (hj : j < s.xs.length) : (swapS s i j).xs.getD i It.zero = at' s j := by
  simp only [swapS, at', List.getD]
  by_cases h : j = i
  · subst h; simp [hj]
  · rw [List.getElem?_set_ne h, List.getElem?_set_self hi]; rfl
theorem swap_at_j (s : Ps) (i j : Nat) (hi : i < s.xs.length) (hj : j < s.xs.length) : (swapS s i j).xs.getD j It.zero = at' s i := by
  simp only [swapS, at', List.getD]
  rw [List.getElem?_set_self (by simpa using hj)]; rfl
/-! The order. -/
theorem ahead_iff (x y : It) : ahead x y = true ↔ x.a < y.a ∨ (x.a = y.a ∧ x.b < y.b) := by
  simp [ahead]
theorem ahead_irrefl (x : It) : ahead x x = false := by
  cases h : ahead x x with
  | false => rfl
  | true => rw [ahead_iff] at h; omega
theorem ahead_trans {x y z : It} (h1 : ahead x y = true) (h2 : ahead y z = true) : ahead x z = true := by
  rw [ahead_iff] at *; omega
/-- y isn't ahead of x. -/
def nb (x y : It) : Prop := ahead y x = false
theorem nb_iff (x y : It) : nb x y ↔ ¬ (y.a < x.a ∨ (y.a = x.a ∧ y.b < x.b)) := by
  rw [nb, ← Bool.not_eq_true, ahead_iff]
theorem nb_trans {x y z : It} (h1 : nb x y) (h2 : nb y z) : nb x z := by rw [nb_iff] at *; omega
theorem nb_of_ahead {x y : It} (h : ahead x y = true) : nb x y := by rw [nb_iff]; rw [ahead_iff] at h; omega
theorem ahead_of_nb {x y : It} (h : nb x y) (hs : x.b ≠ y.b) : ahead x y = true := by rw [nb_iff] at h; rw [ahead_iff]; omega
/-! Places that are exchanged. -/
def swapF (f : Nat → It) (i j k : Nat) : It := if k = j then f i else if k = i then f j else f k
theorem at_swap (s : Ps) (i j k : Nat) (hi : i < s.xs.length) (hj : j < s.xs.length) : at' (swapS s i j) k = swapF (at' s) i j k := by
  unfold swapF
  by_cases h1 : k = j
  · rw [if_pos h1, h1]; exact swap_at_j s i j hi hj
  · rw [if_neg h1]
    by_cases h2 : k = i
    · rw [if_pos h2, h2]; exact swap_at_i s i j hi hj
    · rw [if_neg h2]
      simp only [swapS, at', List.getD]
      rw [List.getElem?_set_ne (Ne.symm h1), List.getElem?_set_ne (Ne.symm h2)]
theorem at_get (s : Ps) (i : Nat) (hi : i < s.xs.length) : at' s i = s.xs[i] := by
  simp [at', List.getD, List.getElem?_eq_getElem hi]
theorem swap_perm (s : Ps) (i j : Nat) (hi : i < s.xs.length) (hj : j < s.xs.length) : (swapS s i j).xs.Perm s.xs := by
  simp only [swapS, at_get s i hi, at_get s j hj]
  exact List.set_set_perm hi hj
/-- A heap as far as n, but for what hangs on j. -/
def HeapTo (f : Nat → It) (n : Nat) : Prop := ∀ c, 0 < c → c < n → nb (f ((c - 1) / 2)) (f c)
def HeapUp (f : Nat → It) (n j : Nat) : Prop := (∀ c, 0 < c → c < n → c ≠ j → nb (f ((c - 1) / 2)) (f c)) ∧ ∀ c, 0 < c → c < n → (c - 1) / 2 = j → 0 < j → nb (f ((j - 1) / 2)) (f c)
def HeapDown (f : Nat → It) (n i : Nat) : Prop := (∀ c, 0 < c → c < n → (c - 1) / 2 ≠ i → nb (f ((c - 1) / 2)) (f c)) ∧ ∀ c, 0 < c → c < n → (c - 1) / 2 = i → 0 < i → nb (f ((i - 1) / 2)) (f c)
theorem heapUp_step {f : Nat → It} {n j : Nat} (h : HeapUp f n j) (hj0 : 0 < j) (hjn : j < n) (ha : ahead (f j) (f ((j - 1) / 2)) = true) : HeapUp (swapF f ((j - 1) / 2) j) n ((j - 1) / 2) := by
  have hpj : (j - 1) / 2 < j := by omega
  have hpn : (j - 1) / 2 ≠ j := by omega
  have e1 : swapF f ((j - 1) / 2) j j = f ((j - 1) / 2) := if_pos rfl
  have e2 : swapF f ((j - 1) / 2) j ((j - 1) / 2) = f j := by rw [swapF, if_neg hpn, if_pos rfl]
  have e3 : ∀ k, k ≠ j → k ≠ (j - 1) / 2 → swapF f ((j - 1) / 2) j k = f k := fun k h1 h2 => by rw [swapF, if_neg h1, if_neg h2]
  refine ⟨fun c hc hcn hne => ?_, fun c hc hcn hpc hp0 => ?_⟩
  · by_cases hcj : c = j
    · rw [hcj, e1, e2]; exact nb_of_ahead ha
    · rw [e3 c hcj hne]
      by_cases h1 : (c - 1) / 2 = j
      · rw [h1, e1]; exact h.2 c hc hcn h1 hj0
      · by_cases h2 : (c - 1) / 2 = (j - 1) / 2
        · rw [h2, e2]
          exact nb_trans (nb_of_ahead ha) (h2 ▸ h.1 c hc hcn hcj)
        · rw [e3 _ h1 h2]; exact h.1 c hc hcn hcj
  · have hq : ((j - 1) / 2 - 1) / 2 ≠ j := by omega
    have hq2 : ((j - 1) / 2 - 1) / 2 ≠ (j - 1) / 2 := by omega
    rw [e3 _ hq hq2]
    have hb := h.1 ((j - 1) / 2) hp0 (by omega) hpn
    by_cases hcj : c = j
    · rw [hcj, e1]; exact hb
    · rw [e3 c hcj (by omega)]
      exact nb_trans hb (hpc ▸ h.1 c hc hcn hcj)
theorem heapUp_done {f : Nat → It} {n j : Nat} (h : HeapUp f n j) (hd : j = 0 ∨ nb (f ((j - 1) / 2)) (f j)) : HeapTo f n := by
  intro c hc hcn
  by_cases e : c = j
  · rcases hd with h0 | h1
    · omega
    · rw [e]; exact h1
  · exact h.1 c hc hcn e
theorem up_heap : ∀ (j : Nat) (s : Ps), j < s.xs.length → HeapUp (at' s) s.xs.length j → HeapTo (at' (upS s j)) s.xs.length ∧ (upS s j).xs.Perm s.xs := by
  intro j
  induction j using Nat.strongRecOn with
  | ind j ih =>
    intro s hj h
    rw [upS]
    split
    · rename_i h0; exact ⟨heapUp_done h (.inl h0), List.Perm.refl _⟩
    · split
      · rename_i h0 ha
        have hp : (j - 1) / 2 < s.xs.length := by omega
        have hf : at' (swapS s ((j - 1) / 2) j) = swapF (at' s) ((j - 1) / 2) j := funext fun k => at_swap s _ _ k hp hj
        have h2 := heapUp_step h (by omega) hj ha
        have := ih ((j - 1) / 2) (by omega) (swapS s ((j - 1) / 2) j) (by rw [swap_len]; exact hp) (by rw [hf, swap_len]; exact h2)
        rw [swap_len] at this
        exact ⟨this.1, this.2.trans (swap_perm s _ _ hp hj)⟩
      · rename_i h0 ha
        exact ⟨heapUp_done h (.inr (by rw [nb]; simpa using ha)), List.Perm.refl _⟩
theorem heapDown_step {f : Nat → It} {n i j : Nat} (h : HeapDown f n i) (hji : (j - 1) / 2 = i) (hj0 : 0 < j) (hjn : j < n) (ha : ahead (f j) (f i) = true) (hs : ∀ c, 0 < c → c < n → (c - 1) / 2 = i → nb (f j) (f c)) : HeapDown (swapF f i j) n j := by
  have hij : i ≠ j := by omega
  have e1 : swapF f i j j = f i := if_pos rfl
  have e2 : swapF f i j i = f j := by rw [swapF, if_neg hij, if_pos rfl]
  have e3 : ∀ k, k ≠ j → k ≠ i → swapF f i j k = f k := fun k h1 h2 => by rw [swapF, if_neg h1, if_neg h2]
  refine ⟨fun c hc hcn hne => ?_, fun c hc hcn hpc _ => ?_⟩
  · by_cases h1 : (c - 1) / 2 = i
    · rw [h1, e2]
      by_cases hcj : c = j
      · rw [hcj, e1]; exact nb_of_ahead ha
      · rw [e3 c hcj (by omega)]; exact hs c hc hcn h1
    · rw [e3 _ hne h1]
      by_cases hci : c = i
      · rw [hci, e2]
        have hi0 : 0 < i := by omega
        have := h.2 j hj0 hjn hji hi0
        exact this
      · rw [e3 c (fun e => h1 (e ▸ hji)) hci]; exact h.1 c hc hcn h1
  · have hcj : c ≠ j := by omega
    have hci : c ≠ i := by omega
    rw [hji, e2, e3 c hcj hci]
    have := h.1 c hc hcn (by omega)
    rwa [hpc] at this
theorem heapDown_done {f : Nat → It} {n i : Nat} (h : HeapDown f n i) (hd : ∀ c, 0 < c → c < n → (c - 1) / 2 = i → nb (f i) (f c)) : HeapTo f n := by
  intro c hc hcn
  by_cases e : (c - 1) / 2 = i
  · rw [e]; exact hd c hc hcn e
  · exact h.1 c hc hcn e
theorem down_heap (n : Nat) : ∀ (d : Nat) (s : Ps) (i : Nat), n - i ≤ d → n ≤ s.xs.length → HeapDown (at' s) n i → HeapTo (at' (downS s i n).1) n ∧ (downS s i n).1.xs.Perm s.xs ∧ ∀ k, n ≤ k → at' (downS s i n).1 k = at' s k := by
  intro d
  induction d with
  | zero =>
    intro s i hd hn h
    rw [downS, dif_pos (by omega)]
    exact ⟨heapDown_done h (fun c hc hcn e => by omega), List.Perm.refl _, fun _ _ => rfl⟩
  | succ d ih =>
    intro s i hd hn h
    rw [downS]
    split
    · exact ⟨heapDown_done h (fun c hc hcn e => by omega), List.Perm.refl _, fun _ _ => rfl⟩
    · rename_i hlt
      have hjn := downJ_lt s i n hlt
      have hji : (downJ s i n - 1) / 2 = i := by unfold downJ; split <;> omega
      have hj0 : 0 < downJ s i n := by unfold downJ; split <;> omega
      have hmin : ∀ c, 0 < c → c < n → (c - 1) / 2 = i → nb (at' s (downJ s i n)) (at' s c) := by
        intro c hc hcn e
        have hcase : c = 2 * i + 1 ∨ c = 2 * i + 2 := by omega
        unfold downJ
        split
        · rename_i hh
          rcases hcase with rfl | rfl
          · exact nb_of_ahead hh.2
          · exact ahead_irrefl _
        · rename_i hh
          rcases hcase with rfl | rfl
          · exact ahead_irrefl _
          · cases hb : ahead (at' s (2 * i + 2)) (at' s (2 * i + 1)) with
            | false => exact hb
            | true => exact absurd ⟨hcn, hb⟩ hh
      split
      · rename_i ha
        have hj2 : downJ s i n < s.xs.length := by omega
        have hi2 : i < s.xs.length := by omega
        have hf : at' (swapS s i (downJ s i n)) = swapF (at' s) i (downJ s i n) := funext fun k => at_swap s _ _ k hi2 hj2
        have := ih (swapS s i (downJ s i n)) (downJ s i n) (by have := downJ_gt s i n; omega) (by rw [swap_len]; exact hn) (by rw [hf]; exact heapDown_step h hji hj0 hjn ha hmin)
        refine ⟨this.1, this.2.1.trans (swap_perm s _ _ hi2 hj2), fun k hk => ?_⟩
        rw [this.2.2 k hk, hf, swapF, if_neg (by omega), if_neg (by omega)]
      · rename_i ha
        refine ⟨heapDown_done h fun c hc hcn e => ?_, List.Perm.refl _, fun _ _ => rfl⟩
        have ha' : nb (at' s i) (at' s (downJ s i n)) := by simpa [nb] using ha
        exact nb_trans ha' (hmin c hc hcn e)
/-- The root stands ahead. -/
theorem heap_root {f : Nat → It} {n : Nat} (h : HeapTo f n) : ∀ c, c < n → nb (f 0) (f c) := by
  intro c
  induction c using Nat.strongRecOn with
  | ind c ih =>
    intro hc
    by_cases h0 : c = 0
    · rw [h0]; exact ahead_irrefl _
    · exact nb_trans (ih ((c - 1) / 2) (by omega) (by omega)) (h c (by omega) hc)
theorem up_heapN (n : Nat) : ∀ (j : Nat) (s : Ps), j < n → n ≤ s.xs.length → HeapUp (at' s) n j → HeapTo (at' (upS s j)) n ∧ (upS s j).xs.Perm s.xs ∧ ∀ k, n ≤ k → at' (upS s j) k = at' s k := by
  intro j
  induction j using Nat.strongRecOn with
  | ind j ih =>
    intro s hj hn h
    rw [upS]
    split
    · rename_i h0; exact ⟨heapUp_done h (.inl h0), List.Perm.refl _, fun _ _ => rfl⟩
    · split
      · rename_i h0 ha
        have hp : (j - 1) / 2 < s.xs.length := by omega
        have hf : at' (swapS s ((j - 1) / 2) j) = swapF (at' s) ((j - 1) / 2) j := funext fun k => at_swap s _ _ k hp (by omega)
        have h2 := heapUp_step h (by omega) hj ha
        have := ih ((j - 1) / 2) (by omega) (swapS s ((j - 1) / 2) j) (by omega) (by rw [swap_len]; exact hn) (by rw [hf]; exact h2)
        refine ⟨this.1, this.2.1.trans (swap_perm s _ _ hp (by omega)), fun k hk => ?_⟩
        rw [this.2.2 k hk, hf, swapF, if_neg (by omega), if_neg (by omega)]
      · rename_i h0 ha
        exact ⟨heapUp_done h (.inr (by rw [nb]; simpa using ha)), List.Perm.refl _, fun _ _ => rfl⟩
/-- A heap but for what hangs on i, above and below. -/
def HeapHole (f : Nat → It) (n i : Nat) : Prop := (∀ c, 0 < c → c < n → c ≠ i → (c - 1) / 2 ≠ i → nb (f ((c - 1) / 2)) (f c)) ∧ ∀ c, 0 < c → c < n → (c - 1) / 2 = i → 0 < i → nb (f ((i - 1) / 2)) (f c)
theorem hole_step {f : Nat → It} {n i j : Nat} (h : HeapHole f n i) (hji : (j - 1) / 2 = i) (hj0 : 0 < j) (hjn : j < n) (ha : ahead (f j) (f i) = true) (hs : ∀ c, 0 < c → c < n → (c - 1) / 2 = i → nb (f j) (f c)) (hcj : ∀ c, 0 < c → c < n → (c - 1) / 2 = j → nb (f j) (f c)) : HeapDown (swapF f i j) n j := by
  have hij : i ≠ j := by omega
  have e1 : swapF f i j j = f i := if_pos rfl
  have e2 : swapF f i j i = f j := by rw [swapF, if_neg hij, if_pos rfl]
  have e3 : ∀ k, k ≠ j → k ≠ i → swapF f i j k = f k := fun k h1 h2 => by rw [swapF, if_neg h1, if_neg h2]
  refine ⟨fun c hc hcn hne => ?_, fun c hc hcn hpc _ => ?_⟩
  · by_cases h1 : (c - 1) / 2 = i
    · rw [h1, e2]
      by_cases hcj' : c = j
      · rw [hcj', e1]; exact nb_of_ahead ha
      · rw [e3 c hcj' (by omega)]; exact hs c hc hcn h1
    · rw [e3 _ hne h1]
      by_cases hci : c = i
      · rw [hci, e2]
        exact h.2 j hj0 hjn hji (by omega)
      · rw [e3 c (fun e => h1 (e ▸ hji)) hci]; exact h.1 c hc hcn hci h1
  · rw [hji, e2, e3 c (by omega) (by omega)]
    exact hcj c hc hcn hpc
theorem hole_down (n : Nat) (s : Ps) (i : Nat) (hn : n ≤ s.xs.length) (hin : i < n) (h : HeapHole (at' s) n i) :
    (i < (downS s i n).2 → HeapTo (at' (downS s i n).1) n) ∧ (¬ i < (downS s i n).2 → (downS s i n).1 = s ∧ HeapUp (at' s) n i) ∧ (downS s i n).1.xs.Perm s.xs ∧ ∀ k, n ≤ k → at' (downS s i n).1 k = at' s k := by
  have snd_ge : ∀ (d : Nat) (s : Ps) (i : Nat), n - i ≤ d → i ≤ (downS s i n).2 := by
    intro d
    induction d with
    | zero => intro s i hd; rw [downS, dif_pos (by omega)]; exact Nat.le_refl _
    | succ d ih =>
      intro s i hd
      rw [downS]
      split
      · exact Nat.le_refl _
      · have hg := downJ_gt s i n
        split
        · exact Nat.le_trans (Nat.le_of_lt hg) (ih _ _ (by omega))
        · exact Nat.le_refl _
  by_cases hlt : n ≤ 2 * i + 1
  · have e : downS s i n = (s, i) := by rw [downS, dif_pos hlt]
    rw [e]
    refine ⟨fun hh => absurd hh (Nat.lt_irrefl _), fun _ => ⟨rfl, fun c hc hcn hne => h.1 c hc hcn hne (by omega), h.2⟩, List.Perm.refl _, fun _ _ => rfl⟩
  · have hjn := downJ_lt s i n hlt
    have hji : (downJ s i n - 1) / 2 = i := by unfold downJ; split <;> omega
    have hj0 : 0 < downJ s i n := by unfold downJ; split <;> omega
    have hg := downJ_gt s i n
    have hmin : ∀ c, 0 < c → c < n → (c - 1) / 2 = i → nb (at' s (downJ s i n)) (at' s c) := by
      intro c hc hcn e
      have hcase : c = 2 * i + 1 ∨ c = 2 * i + 2 := by omega
      unfold downJ
      split
      · rename_i hh
        rcases hcase with rfl | rfl
        · exact nb_of_ahead hh.2
        · exact ahead_irrefl _
      · rename_i hh
        rcases hcase with rfl | rfl
        · exact ahead_irrefl _
        · cases hb : ahead (at' s (2 * i + 2)) (at' s (2 * i + 1)) with
          | false => exact hb
          | true => exact absurd ⟨hcn, hb⟩ hh
    by_cases ha : ahead (at' s (downJ s i n)) (at' s i) = true
    · have e : downS s i n = downS (swapS s i (downJ s i n)) (downJ s i n) n := by conv => lhs; rw [downS, dif_neg hlt, if_pos ha]
      rw [e]
      have hi2 : i < s.xs.length := by omega
      have hj2 : downJ s i n < s.xs.length := by omega
      have hf : at' (swapS s i (downJ s i n)) = swapF (at' s) i (downJ s i n) := funext fun k => at_swap s _ _ k hi2 hj2
      have hd := down_heap n _ (swapS s i (downJ s i n)) (downJ s i n) (Nat.le_refl _) (by rw [swap_len]; exact hn) (by
        rw [hf]
        refine hole_step h hji hj0 hjn ha hmin fun c hc hcn hp => ?_
        have := h.1 c hc hcn (by omega) (by omega)
        rwa [hp] at this)
      have hge := snd_ge _ (swapS s i (downJ s i n)) (downJ s i n) (Nat.le_refl _)
      refine ⟨fun _ => hd.1, fun hh => absurd (Nat.lt_of_lt_of_le hg hge) hh, hd.2.1.trans (swap_perm s _ _ hi2 hj2), fun k hk => ?_⟩
      rw [hd.2.2 k hk, hf, swapF, if_neg (by omega), if_neg (by omega)]
    · have e : downS s i n = (s, i) := by rw [downS, dif_neg hlt, if_neg ha]
      rw [e]
      have ha' : nb (at' s i) (at' s (downJ s i n)) := by simpa [nb] using ha
      refine ⟨fun hh => absurd hh (Nat.lt_irrefl _), fun _ => ⟨rfl, fun c hc hcn hne => ?_, h.2⟩, List.Perm.refl _, fun _ _ => rfl⟩
      by_cases hp : (c - 1) / 2 = i
      · rw [hp]; exact nb_trans ha' (hmin c hc hcn hp)
      · exact h.1 c hc hcn hne hp
end Go.Proofs.Ytojfbgmeaadanaa.Alm

/- Alarms: a clock as its alarms in the order of setting: the plain law. -/
set_option linter.unusedVariables false
set_option linter.unusedSimpArgs false
set_option maxRecDepth 100000
namespace Go.Proofs.Ytojfbgmeaadanaa.Alm
open Go Go.RowKit Go.Proofs.Ytojfbgmeaadanaa.Eng Go.Proofs.Ytojfbgmeaadanaa.Kit
/-- The clock with the i-th alarm at its end. -/
def remD (s : Ps) (i : Nat) : Ps := if i + 1 = s.xs.length then s else if i < (downS (hremT s i) i (s.xs.length - 1)).2 then hremD s i else hremU s i
theorem remD_keep (s : Ps) (i : Nat) : Keep s (remD s i) := by
  unfold remD
  split
  · exact Keep.refl s
  · split
    · exact (swap_keep ..).trans (down_keeps ..)
    · exact ((swap_keep ..).trans (down_keeps ..)).trans (up_keep ..)
theorem hrem_tri (s : Ps) (i : Nat) (hB : Big s) (hi : i < s.xs.length) : Tri Try.prog default fHRem [hI, iv (Int.ofNat i)] (uL s) alP (uL (popS (remD s i)) ++ outL (lastOf (remD s i)) ((remD s i).xs.length - 1)) := by
  unfold remD
  split
  · exact hrem1_tri s i hB (by assumption)
  · split
    · exact hrem2_tri s i hB (by omega) (by assumption)
    · exact hrem3_tri s i hB (by omega) (by assumption)
theorem mem_at {s : Ps} {x : It} : x ∈ s.xs ↔ ∃ i, i < s.xs.length ∧ at' s i = x := by
  rw [List.mem_iff_getElem]
  constructor
  · rintro ⟨i, hi, e⟩; exact ⟨i, hi, by rw [at_get s i hi, e]⟩
  · rintro ⟨i, hi, e⟩; exact ⟨i, hi, by rw [← at_get s i hi, e]⟩
theorem at_push (s : Ps) (x : It) (i : Nat) : at' (pushS s x) i = if i < s.xs.length then at' s i else if i = s.xs.length then x else It.zero := by
  simp only [at', pushS, List.getD]
  by_cases h1 : i < s.xs.length
  · rw [if_pos h1, List.getElem?_append_left h1]
  · rw [if_neg h1, List.getElem?_append_right (by omega)]
    by_cases h2 : i = s.xs.length
    · rw [if_pos h2, h2, Nat.sub_self]; rfl
    · rw [if_neg h2, List.getElem?_eq_none (by simp; omega)]; rfl
theorem dropLast_at (s : Ps) (k : Nat) (hk : k < s.xs.length - 1) : at' (popS s) k = at' s k := by
  show s.xs.dropLast.getD k It.zero = s.xs.getD k It.zero
  rw [List.getD, List.getD, List.getElem?_dropLast, if_pos hk]
theorem last_perm {s : Ps} (h0 : 0 < s.xs.length) : (lastOf s :: (popS s).xs).Perm s.xs := by
  have hne : s.xs ≠ [] := fun e => by rw [e] at h0; cases h0
  have hl : lastOf s = s.xs.getLast hne := by
    rw [lastOf, at', List.getD, List.getElem?_eq_getElem (by omega), List.getLast_eq_getElem]; rfl
  have hs := List.dropLast_concat_getLast hne
  conv => rhs; rw [← hs]
  rw [hl]
  exact List.perm_append_comm (l₁ := [_])
theorem pop_heap {s : Ps} {n : Nat} (hn : s.xs.length = n + 1) (h : HeapTo (at' s) n) : HeapTo (at' (popS s)) (popS s).xs.length := by
  rw [pop_len, hn]
  intro c hc hcn
  rw [dropLast_at s c (by omega), dropLast_at s _ (by omega)]
  exact h c hc (by omega)
theorem rem_spec (s : Ps) (i : Nat) (hh : HeapTo (at' s) s.xs.length) (hi : i < s.xs.length) : lastOf (remD s i) = at' s i ∧ HeapTo (at' (popS (remD s i))) (popS (remD s i)).xs.length ∧ (at' s i :: (popS (remD s i)).xs).Perm s.xs := by
  have hk := remD_keep s i
  have key : lastOf (remD s i) = at' s i ∧ HeapTo (at' (remD s i)) (s.xs.length - 1) ∧ (remD s i).xs.Perm s.xs := by
    unfold remD
    split
    · rename_i h1
      refine ⟨by rw [lastOf, ← h1]; rfl, fun c hc hcn => hh c hc (by omega), List.Perm.refl _⟩
    · rename_i h1
      have hlast : s.xs.length - 1 < s.xs.length := by omega
      have hsl := swap_len s i (s.xs.length - 1)
      have hf : at' (hremT s i) = swapF (at' s) i (s.xs.length - 1) := funext fun k => at_swap s _ _ k hi hlast
      have hhole : HeapHole (at' (hremT s i)) (s.xs.length - 1) i := by
        rw [hf]
        refine ⟨fun c hc hcn hci hpi => ?_, fun c hc hcn hp h0 => ?_⟩
        · rw [swapF, if_neg (by omega), if_neg hpi, swapF, if_neg (by omega), if_neg hci]
          exact hh c hc (by omega)
        · rw [swapF, if_neg (by omega), if_neg (by omega), swapF, if_neg (by omega), if_neg (by omega)]
          have a1 := hh i h0 hi
          have a2 := hh c hc (by omega)
          rw [hp] at a2
          exact nb_trans a1 a2
      have htl : (hremT s i).xs.length = s.xs.length := hsl
      obtain ⟨q1, q2, q3, q4⟩ := hole_down (s.xs.length - 1) (hremT s i) i (by omega) (by omega) hhole
      have hend : at' (hremT s i) (s.xs.length - 1) = at' s i := by rw [hf, swapF, if_pos rfl]
      have hpd : (hremD s i).xs.Perm s.xs := q3.trans (swap_perm s _ _ hi hlast)
      split
      · rename_i h2
        have hl : (hremD s i).xs.length = s.xs.length := hpd.length_eq
        exact ⟨by rw [lastOf, hl]; exact (q4 _ (Nat.le_refl _)).trans hend, q1 h2, hpd⟩
      · rename_i h2
        obtain ⟨e0, hup⟩ := q2 h2
        have e0' : hremD s i = hremT s i := e0
        obtain ⟨u1, u2, u3⟩ := up_heapN (s.xs.length - 1) i (hremT s i) (by omega) (by omega) hup
        have eU : hremU s i = upS (hremT s i) i := by rw [hremU, e0']
        rw [eU]
        have hp2 : (upS (hremT s i) i).xs.Perm s.xs := u2.trans (swap_perm s _ _ hi hlast)
        exact ⟨by rw [lastOf, hp2.length_eq, u3 _ (Nat.le_refl _), hend], u1, hp2⟩
  obtain ⟨k1, k2, k3⟩ := key
  refine ⟨k1, pop_heap (n := s.xs.length - 1) (by rw [hk.len]; omega) k2, ?_⟩
  rw [← k1]
  exact (last_perm (by rw [hk.len]; omega)).trans k3
theorem hpop_spec (s : Ps) (hh : HeapTo (at' s) s.xs.length) (h0 : 0 < s.xs.length) : lastOf (hpopD s) = at' s 0 ∧ HeapTo (at' (popS (hpopD s))) (popS (hpopD s)).xs.length ∧ (at' s 0 :: (popS (hpopD s)).xs).Perm s.xs ∧ Keep s (hpopD s) := by
  have hlast : s.xs.length - 1 < s.xs.length := by omega
  have hsl := swap_len s 0 (s.xs.length - 1)
  have hf : at' (hpopT s) = swapF (at' s) 0 (s.xs.length - 1) := funext fun k => at_swap s _ _ k h0 hlast
  have hdown : HeapDown (at' (hpopT s)) (s.xs.length - 1) 0 := by
    rw [hf]
    refine ⟨fun c hc hcn hne => ?_, fun c _ _ _ h0' => by omega⟩
    rw [swapF, if_neg (by omega), if_neg hne, swapF, if_neg (by omega), if_neg (by omega)]
    exact hh c hc (by omega)
  have htl : (hpopT s).xs.length = s.xs.length := hsl
  obtain ⟨q1, q2, q3⟩ := down_heap (s.xs.length - 1) _ (hpopT s) 0 (Nat.le_refl _) (by omega) hdown
  have hk : Keep s (hpopD s) := (swap_keep ..).trans (down_keeps ..)
  have hroot : at' (hpopD s) (s.xs.length - 1) = at' s 0 := by
    show at' (downS _ _ _).1 _ = _
    have := q3 (s.xs.length - 1) (Nat.le_refl _)
    rw [hf, swapF, if_pos rfl] at this
    exact this
  have k1 : lastOf (hpopD s) = at' s 0 := by rw [lastOf, hk.len]; exact hroot
  refine ⟨k1, pop_heap (n := s.xs.length - 1) (by rw [hk.len]; omega) q1, ?_, hk⟩
  rw [← k1]
  exact (last_perm (by rw [hk.len]; omega)).trans (q2.trans (swap_perm s 0 _ h0 hlast))
theorem push_spec (s : Ps) (x : It) (hh : HeapTo (at' s) s.xs.length) : HeapTo (at' (hpushS s x)) (hpushS s x).xs.length ∧ (hpushS s x).xs.Perm (s.xs ++ [x]) ∧ Keep (pushS s x) (hpushS s x) := by
  have hlen := push_len s x
  have hup : HeapUp (at' (pushS s x)) (pushS s x).xs.length s.xs.length := by
    rw [hlen]
    refine ⟨fun c hc hcn hne => ?_, fun c hc hcn e _ => by omega⟩
    rw [at_push, at_push, if_pos (by omega), if_pos (by omega)]
    exact hh c hc (by omega)
  obtain ⟨q1, q2⟩ := up_heap s.xs.length (pushS s x) (by omega) hup
  have hk : Keep (pushS s x) (hpushS s x) := up_keep ..
  refine ⟨?_, q2, hk⟩
  rw [hk.len]
  exact q1
/-! The relation. -/
structure AbsC (s : Ps) (L : List Al) (tn : Int) : Prop where
  heap : HeapTo (at' s) s.xs.length
  ord : ∃ ts : List It, ts.Perm s.xs ∧ ts.Pairwise (fun x y => x.b < y.b) ∧ L = ts.map fun x => ⟨x.c, x.a⟩
  top : ∀ x ∈ s.xs, x.b ≤ tn
  ids : (s.xs.map (·.c)).Nodup
  mi : MI s.m s.ck
  map : ∀ id b, mlook id s.m = some b ↔ ∃ x ∈ s.xs, x.c = id ∧ x.k = b
  tn : s.tn = tn
theorem AbsC.len {s : Ps} {L : List Al} {tn : Int} (h : AbsC s L tn) : L.length = s.xs.length := by
  obtain ⟨ts, h1, _, rfl⟩ := h.ord
  rw [List.length_map, h1.length_eq]
/-- The list without an id. -/
def without (L : List Al) (id : Int) : List Al := L.filter fun x => !decide (x.id = id)
theorem AbsC.take {s s' : Ps} {L : List Al} {tn : Int} {x : It} (h : AbsC s L tn) (hh : HeapTo (at' s') s'.xs.length) (hp : (x :: s'.xs).Perm s.xs) (hm : s'.m = mdel s.m x.c) (hc : s'.ck = s.ck) (ht : s'.tn = s.tn) : AbsC s' (without L x.c) tn := by
  have hids : ((x :: s'.xs).map (·.c)).Nodup := (hp.map _).nodup_iff.2 h.ids
  rw [List.map_cons, List.nodup_cons] at hids
  have hne : ∀ y ∈ s'.xs, y.c ≠ x.c := fun y hy e => hids.1 (List.mem_map.2 ⟨y, hy, e⟩)
  obtain ⟨ts, t1, t2, t3⟩ := h.ord
  refine ⟨hh, ⟨ts.filter fun y => !decide (y.c = x.c), ?_, t2.filter _, ?_⟩, fun y hy => h.top y (hp.subset (List.mem_cons_of_mem _ hy)), hids.2, ?_, fun id b => ?_, ht.trans h.tn⟩
  · have := (t1.trans hp.symm).filter fun y => !decide (y.c = x.c)
    rw [List.filter_cons, if_neg (by simp)] at this
    have e : s'.xs.filter (fun y => !decide (y.c = x.c)) = s'.xs := List.filter_eq_self.2 fun y hy => by simpa using hne y hy
    rw [e] at this
    exact this
  · rw [without, t3, List.filter_map]; rfl
  · rw [hm, hc]; exact h.mi.mdel _
  · rw [hm, mlook_mdel h.mi]
    by_cases e : id = x.c
    · rw [if_pos e]
      constructor
      · intro h'; cases h'
      · rintro ⟨y, hy, hyc, _⟩; exact absurd (hyc.trans e) (hne y hy)
    · rw [if_neg e, h.map]
      constructor
      · rintro ⟨y, hy, hyc, hyk⟩
        rcases List.mem_cons.1 (hp.mem_iff.2 hy) with rfl | hy'
        · exact absurd hyc.symm e
        · exact ⟨y, hy', hyc, hyk⟩
      · rintro ⟨y, hy, hyc, hyk⟩
        exact ⟨y, hp.subset (List.mem_cons_of_mem _ hy), hyc, hyk⟩
theorem AbsC.find {s : Ps} {L : List Al} {tn : Int} (h : AbsC s L tn) (id : Int) : (∃ i, i < s.xs.length ∧ (at' s i).c = id ∧ mlook id s.m = some (at' s i).k ∧ (L.find? fun x => decide (x.id = id)) = some ⟨id, (at' s i).a⟩) ∨ (mlook id s.m = none ∧ ∀ x ∈ L, x.id ≠ id) := by
  obtain ⟨ts, t1, t2, t3⟩ := h.ord
  cases hm : mlook id s.m with
  | some b =>
    obtain ⟨x, hx, hxc, hxk⟩ := (h.map id b).1 hm
    obtain ⟨i, hi, rfl⟩ := mem_at.1 hx
    refine .inl ⟨i, hi, hxc, by rw [hxk], ?_⟩
    rw [t3, List.find?_map]
    have hmem : at' s i ∈ ts := t1.mem_iff.2 hx
    have hids : (ts.map (·.c)).Nodup := (t1.map _).nodup_iff.2 h.ids
    have : ts.find? ((fun x => decide (x.id = id)) ∘ fun x => (⟨x.c, x.a⟩ : Al)) = some (at' s i) := by
      clear t1 t2 t3 hm
      induction ts with
      | nil => cases hmem
      | cons y ts ih =>
        rw [List.find?_cons]
        rw [List.map_cons, List.nodup_cons] at hids
        rcases List.mem_cons.1 hmem with e | e
        · subst e
          simp [hxc]
        · have hne : y.c ≠ id := fun e' => hids.1 (List.mem_map.2 ⟨_, e, by rw [hxc, e']⟩)
          simp only [Function.comp, hne, decide_false]
          exact ih e hids.2
    rw [this, Option.map_some, hxc]
  | none =>
    refine .inr ⟨rfl, fun x hx e => ?_⟩
    rw [t3] at hx
    obtain ⟨y, hy, rfl⟩ := List.mem_map.1 hx
    have := (h.map id y.k).2 ⟨y, t1.mem_iff.1 hy, e, rfl⟩
    rw [hm] at this; cases this
theorem without_same {L : List Al} {id : Int} (h : ∀ x ∈ L, x.id ≠ id) : without L id = L := List.filter_eq_self.2 fun x hx => by simpa using h x hx
theorem AbsC.push {s : Ps} {L : List Al} {tn : Int} (h : AbsC s L tn) (id at_ : Int) (b : Nat) (hn : ∀ x ∈ L, x.id ≠ id) : AbsC (hpushS { s with m := mset s.m s.ck id b, ck := mbump s.m s.ck id, tn := tn + 1 } ⟨at_, tn + 1, id, b⟩) (L ++ [⟨id, at_⟩]) (tn + 1) := by
  obtain ⟨q1, q2, q3⟩ := push_spec { s with m := mset s.m s.ck id b, ck := mbump s.m s.ck id, tn := tn + 1 } ⟨at_, tn + 1, id, b⟩ h.heap
  obtain ⟨ts, t1, t2, t3⟩ := h.ord
  have hnew : ∀ y ∈ s.xs, y.c ≠ id := fun y hy e => by
    have : (⟨y.c, y.a⟩ : Al) ∈ L := by rw [t3]; exact List.mem_map.2 ⟨y, t1.mem_iff.2 hy, rfl⟩
    exact hn _ this e
  refine ⟨q1, ⟨ts ++ [⟨at_, tn + 1, id, b⟩], (t1.append_right _).trans q2.symm, ?_, by rw [t3, List.map_append]; rfl⟩, fun y hy => ?_, ?_, ?_, fun i k => ?_, ?_⟩
  · refine List.pairwise_append.2 ⟨t2, List.pairwise_singleton _ _, fun x hx y hy => ?_⟩
    simp only [List.mem_singleton] at hy
    subst hy
    have := h.top x (t1.mem_iff.1 hx)
    show x.b < tn + 1
    omega
  · rcases List.mem_append.1 (q2.mem_iff.1 hy) with hy | hy
    · have := h.top y hy; omega
    · simp only [List.mem_singleton] at hy; subst hy; exact Int.le_refl _
  · refine ((q2.map _).nodup_iff).2 ?_
    rw [List.map_append, List.nodup_append]
    refine ⟨h.ids, by simp, fun a ha b' hb' => ?_⟩
    obtain ⟨y, hy, rfl⟩ := List.mem_map.1 ha
    simp only [List.map_cons, List.map_nil, List.mem_singleton] at hb'
    subst hb'
    exact hnew y hy
  · rw [q3.m, q3.ck]; exact h.mi.mset _ _
  · rw [q3.m]
    show mlook i (mset s.m s.ck id b) = some k ↔ _
    rw [mlook_mset]
    by_cases e : i = id
    · rw [if_pos e]
      constructor
      · intro hk
        exact ⟨⟨at_, tn + 1, id, b⟩, q2.mem_iff.2 (by simp), e.symm, Option.some.inj hk⟩
      · rintro ⟨y, hy, hyc, hyk⟩
        rcases List.mem_append.1 (q2.mem_iff.1 hy) with hy | hy
        · exact absurd (hyc.trans e) (hnew y hy)
        · simp only [List.mem_singleton] at hy; subst hy; rw [← hyk]
    · rw [if_neg e, h.map]
      constructor
      · rintro ⟨y, hy, hyc, hyk⟩
        exact ⟨y, q2.mem_iff.2 (List.mem_append_left _ hy), hyc, hyk⟩
      · rintro ⟨y, hy, hyc, hyk⟩
        rcases List.mem_append.1 (q2.mem_iff.1 hy) with hy | hy
        · exact ⟨y, hy, hyc, hyk⟩
        · simp only [List.mem_singleton] at hy; subst hy; exact absurd hyc.symm e
  · rw [q3.tn]; rfl
/-- The first one due. -/
theorem AbsC.root {s : Ps} {L : List Al} {tn : Int} (h : AbsC s L tn) (h0 : 0 < s.xs.length) : ∃ A B, L = A ++ ⟨(at' s 0).c, (at' s 0).a⟩ :: B ∧ (∀ y ∈ A, (at' s 0).a < y.tk) ∧ ∀ y ∈ B, (at' s 0).a ≤ y.tk := by
  obtain ⟨ts, t1, t2, rfl⟩ := h.ord
  have hm : at' s 0 ∈ ts := t1.mem_iff.2 (mem_at.2 ⟨0, h0, rfl⟩)
  obtain ⟨A, B, rfl⟩ := List.append_of_mem hm
  have hr : ∀ y ∈ A ++ at' s 0 :: B, nb (at' s 0) y := fun y hy => by
    obtain ⟨i, hi, rfl⟩ := mem_at.1 (t1.mem_iff.1 hy)
    exact heap_root h.heap i hi
  rw [List.pairwise_append, List.pairwise_cons] at t2
  refine ⟨A.map fun x => ⟨x.c, x.a⟩, B.map fun x => ⟨x.c, x.a⟩, by simp, fun y hy => ?_, fun y hy => ?_⟩
  · obtain ⟨z, hz, rfl⟩ := List.mem_map.1 hy
    have h1 := hr z (List.mem_append_left _ hz)
    rw [nb_iff] at h1
    have h2 := t2.2.2 z hz (at' s 0) List.mem_cons_self
    show (at' s 0).a < z.a
    omega
  · obtain ⟨z, hz, rfl⟩ := List.mem_map.1 hy
    have h1 := hr z (List.mem_append_right _ (List.mem_cons_of_mem _ hz))
    rw [nb_iff] at h1
    show (at' s 0).a ≤ z.a
    omega
end Go.Proofs.Ytojfbgmeaadanaa.Alm

/- Alarms: a clock's methods: runs. -/
set_option linter.unusedVariables false
set_option linter.unusedSimpArgs false
set_option maxRecDepth 100000
namespace Go.Proofs.Ytojfbgmeaadanaa.Alm
open Go Go.RowKit Go.Proofs.Ytojfbgmeaadanaa.Eng Go.Proofs.Ytojfbgmeaadanaa.Kit
noncomputable section
/-- A clock that lies open, its pile yet nil. -/
def uM0 (s : Ps) : LH := [(0, hdr0 1003 s.tn), (1003, mapO s)]
/-- One alarm lies beside the others. -/
def hremH (s : Ps) (i : Nat) : LH := [(0, hdr 1 3 s.xs.length (roomOf s) s.tn), (1, rowO (blocks s)), (2, famO ((fam 0 s.xs).eraseIdx i)), (3, mapO s), (1004, alO (at' s i) i), (1005, .same 1004 (at' s i).k)]
def oC (s : Ps) (i : Nat) : LH := [(0, hdr 1001 1003 s.xs.length (roomOf s) s.tn), (1001, rowO (blocks s)), (1002, famO ((fam 0 s.xs).eraseIdx i)), (1003, mapO s), (1004, alO (at' s i) i), (1005, .same 1004 (at' s i).k)]
def cHRem (s : Ps) (i : Nat) (d : Ps) : List AV → Option (AP AV) := mkC gUpL (fun _ => Big s ∧ i < s.xs.length ∧ remD s i = d) (fun p => nmU p.1 p.2.1 p.2.2.1) (fun _ => [hI, iv (Int.ofNat i)]) (fun _ => hremH s i) (fun _ => .leaf .ret [alP] (uL (popS d) ++ outL (lastOf d) (d.xs.length - 1)))
abbrev fNew : Nat := 7
abbrev fSet : Nat := 8
abbrev fDue : Nat := 9
abbrev fCan : Nat := 15
abbrev fAt : Nat := 16
abbrev fNext : Nat := 12
abbrev fCLen : Nat := 11
def nilP : AV := .v (.pointer none)
def hCanF (b : Nat) : ClaimT := hintL [(fCan, 1, 5, hv (.tuple [ptrV b, .lit true])), (fCan, 3, 4, hp 1005)]
def hCanN : ClaimT := hintL [(fCan, 1, 5, hv (.tuple [nilP, .lit false]))]
theorem oCanF_eq (s d : Ps) (id : Int) (i : Nat) (F : HP) : wRun [(fHRem, cHRem s i d)] (hCanF (at' s i).k) [] default fCan [.ptr 0 0, iv id] (oC s i) [0, 1001, 1002, 1003] F = VT.leaf (AV.v (Value.bool true)) [some (AO.cells [AV.slice 1001 0 d.xs.dropLast.length 1 (Cp.lo (roomOf (popS d))), AV.map 1003, AV.v (Value.int IntKind.i64 d.tn)] 108), some (AO.cells (AV.rens (sgN (nmU 0 1001 1003) [1004, 1005] 1100) (rowV pv (blocks (popS d)))) 110), some (AO.any (famHP 57 (fam 0 d.xs.dropLast))), some (AO.map (delE (AV.v (Value.int IntKind.i64 id)) (renE (sgN (nmU 0 1001 1003) [1004, 1005] 1100) (mE ptrV d.m))) d.ck)] 1102 (((Cnd.p (true = true)).a Cnd.t).a (((Cnd.p (findKey Try.prog (envW [(21, cHRem s i d)] (hCanF (at' s i).k) [] default F) 3 (AV.v (Value.int IntKind.i64 id)) (mE ptrV s.m) 0 = AP.ret (findS (AV.v (Value.int IntKind.i64 id)) (mE ptrV s.m) 0))).a ((Cnd.p (Wk (AV.tuple [foundX (findS (AV.v (Value.int IntKind.i64 id)) (mE ptrV s.m) 0) (Value.pointer none), AV.v (Value.bool (findS (AV.v (Value.int IntKind.i64 id)) (mE ptrV s.m) 0).isSome)]) (AV.tuple [AV.v (Value.pointer (some (Addr.mk (at' s i).k 0 none))), AV.lit true]))).a Cnd.t)).a (((Cnd.p (Wk (AV.v (Value.pointer (some (Addr.mk (at' s i).k 0 none)))) (AV.v (Value.pointer (some (Addr.mk (at' s i).k 0 none)))))).a Cnd.t).a (((Cnd.p (true = true)).a ((Cnd.p (AV.v (Value.int IntKind.i64 (Int.ofNat i)) = AV.v (Value.int IntKind.i64 (Int.ofNat i)))).a Cnd.t)).a (((Cnd.p (Big s ∧ i < s.xs.length ∧ remD s i = d)).a ((Cnd.p (VW [AV.iface 59 (AV.ptr 0 0), AV.v (Value.int IntKind.i64 (Int.ofNat i))] [AV.iface 59 (AV.ptr 0 0), AV.v (Value.int IntKind.i64 (Int.ofNat i))])).a ((Cnd.p (OW (AO.cells [AV.slice 1001 0 s.xs.length 1 (Cp.lo (roomOf s)), AV.map 1003, AV.v (Value.int IntKind.i64 s.tn)] 108) (AO.cells [AV.slice 1001 0 s.xs.length 1 (Cp.lo (roomOf s)), AV.map 1003, AV.v (Value.int IntKind.i64 s.tn)] 108))).a ((Cnd.p (OW (AO.cells (rowV pv (blocks s)) 110) (AO.cells (AV.rens (nmU 0 1001 1003) (rowV pv (blocks s))) 110))).a ((Cnd.p (OW (AO.any (famHP 57 ((fam 0 s.xs).eraseIdx i))) (AO.any (famHP 57 ((fam 0 s.xs).eraseIdx i))))).a ((Cnd.p (OW (AO.map (mE ptrV s.m) s.ck) (AO.map (renE (nmU 0 1001 1003) (mE ptrV s.m)) s.ck))).a ((Cnd.p (OW (AO.cells [AV.v (Value.int IntKind.i64 (at' s i).c), AV.v (Value.int IntKind.i64 (at' s i).a), AV.v (Value.int IntKind.i64 (at' s i).b), AV.v (Value.int IntKind.i64 (Int.ofNat i))] 114) (AO.cells [AV.v (Value.int IntKind.i64 (at' s i).c), AV.v (Value.int IntKind.i64 (at' s i).a), AV.v (Value.int IntKind.i64 (at' s i).b), AV.v (Value.int IntKind.i64 (Int.ofNat i))] 114))).a ((Cnd.p (OW (AO.same 1004 (at' s i).k) (AO.same 1004 (at' s i).k))).a Cnd.t)))))))).a (((Cnd.p (true = true)).a Cnd.t).a (((Cnd.p (findKey Try.prog (envW [(21, cHRem s i d)] (hCanF (at' s i).k) [] default F) 3 (AV.v (Value.int IntKind.i64 id)) (renE (sgN (nmU 0 1001 1003) [1004, 1005] 1100) (mE ptrV d.m)) 0 = AP.ret (findS (AV.v (Value.int IntKind.i64 id)) (renE (sgN (nmU 0 1001 1003) [1004, 1005] 1100) (mE ptrV d.m)) 0))).a Cnd.t).a Cnd.t))))))) := by kernel_rfl
theorem oCanN_eq (s : Ps) (id : Int) (F : HP) : wRun [] hCanN [] default fCan [.ptr 0 0, iv id] (uM s) [0, 1001, 1002, 1003] F = VT.leaf (AV.v (Value.bool false)) [some (AO.cells [AV.slice 1001 0 s.xs.length 1 (Cp.lo (roomOf s)), AV.map 1003, AV.v (Value.int IntKind.i64 s.tn)] 108), some (AO.cells (rowV pv (blocks s)) 110), some (AO.any (famHP 57 (fam 0 s.xs))), some (AO.map (mE ptrV s.m) s.ck)] 1100 (((Cnd.p (true = true)).a Cnd.t).a (((Cnd.p (findKey Try.prog (envW [] hCanN [] default F) 3 (AV.v (Value.int IntKind.i64 id)) (mE ptrV s.m) 0 = AP.ret (findS (AV.v (Value.int IntKind.i64 id)) (mE ptrV s.m) 0))).a ((Cnd.p (Wk (AV.tuple [foundX (findS (AV.v (Value.int IntKind.i64 id)) (mE ptrV s.m) 0) (Value.pointer none), AV.v (Value.bool (findS (AV.v (Value.int IntKind.i64 id)) (mE ptrV s.m) 0).isSome)]) (AV.tuple [AV.v (Value.pointer none), AV.lit false]))).a Cnd.t)).a Cnd.t)) := by kernel_rfl
theorem oCanN0_eq (s : Ps) (id : Int) (F : HP) : wRun [] hCanN [] default fCan [.ptr 0 0, iv id] (uM0 s) [0, 1003] F = VT.leaf (AV.v (Value.bool false)) [some (AO.cells [AV.v (Value.slice none 0 0), AV.map 1003, AV.v (Value.int IntKind.i64 s.tn)] 108), some (AO.map (mE ptrV s.m) s.ck)] 1100 (((Cnd.p (true = true)).a Cnd.t).a (((Cnd.p (findKey Try.prog (envW [] hCanN [] default F) 3 (AV.v (Value.int IntKind.i64 id)) (mE ptrV s.m) 0 = AP.ret (findS (AV.v (Value.int IntKind.i64 id)) (mE ptrV s.m) 0))).a ((Cnd.p (Wk (AV.tuple [foundX (findS (AV.v (Value.int IntKind.i64 id)) (mE ptrV s.m) 0) (Value.pointer none), AV.v (Value.bool (findS (AV.v (Value.int IntKind.i64 id)) (mE ptrV s.m) 0).isSome)]) (AV.tuple [AV.v (Value.pointer none), AV.lit false]))).a Cnd.t)).a Cnd.t)) := by kernel_rfl
def hAtF (b : Nat) : ClaimT := hintL [(fAt, 1, 5, hv (.tuple [ptrV b, .lit true])), (fAt, 4, 0, hp 1005)]
def hAtN : ClaimT := hintL [(fAt, 1, 5, hv (.tuple [nilP, .lit false]))]
theorem oAtF_eq (s : Ps) (id : Int) (i : Nat) (F : HP) : wRun [] (hAtF (at' s i).k) [] default fAt [.ptr 0 0, iv id] (oC s i) [0, 1001, 1002, 1003, 1004, 1005] F = VT.ite false (VT.leaf (AV.tuple [AV.v (Value.int IntKind.i64 (Int.ofNat 0)), AV.v (Value.bool false)]) [some (AO.cells [AV.slice 1001 0 s.xs.length 1 (Cp.lo (roomOf s)), AV.map 1003, AV.v (Value.int IntKind.i64 s.tn)] 108), some (AO.cells (rowV pv (blocks s)) 110), some (AO.any (famHP 57 ((fam 0 s.xs).eraseIdx i))), some (AO.map (mE ptrV s.m) s.ck), some (AO.cells [AV.v (Value.int IntKind.i64 (at' s i).c), AV.v (Value.int IntKind.i64 (at' s i).a), AV.v (Value.int IntKind.i64 (at' s i).b), AV.v (Value.int IntKind.i64 (Int.ofNat i))] 114), some (AO.same 1004 (at' s i).k)] 1100 (((Cnd.p (true = true)).a Cnd.t).a (((Cnd.p (findKey Try.prog (envW [] (hAtF (at' s i).k) [] default F) 3 (AV.v (Value.int IntKind.i64 id)) (mE ptrV s.m) 0 = AP.ret (findS (AV.v (Value.int IntKind.i64 id)) (mE ptrV s.m) 0))).a ((Cnd.p (Wk (AV.tuple [foundX (findS (AV.v (Value.int IntKind.i64 id)) (mE ptrV s.m) 0) (Value.pointer none), AV.v (Value.bool (findS (AV.v (Value.int IntKind.i64 id)) (mE ptrV s.m) 0).isSome)]) (AV.tuple [AV.v (Value.pointer (some (Addr.mk (at' s i).k 0 none))), AV.lit true]))).a Cnd.t)).a Cnd.t))) (VT.leaf (AV.tuple [AV.v (Value.int IntKind.i64 (at' s i).a), AV.v (Value.bool true)]) [some (AO.cells [AV.slice 1001 0 s.xs.length 1 (Cp.lo (roomOf s)), AV.map 1003, AV.v (Value.int IntKind.i64 s.tn)] 108), some (AO.cells (rowV pv (blocks s)) 110), some (AO.any (famHP 57 ((fam 0 s.xs).eraseIdx i))), some (AO.map (mE ptrV s.m) s.ck), some (AO.cells [AV.v (Value.int IntKind.i64 (at' s i).c), AV.v (Value.int IntKind.i64 (at' s i).a), AV.v (Value.int IntKind.i64 (at' s i).b), AV.v (Value.int IntKind.i64 (Int.ofNat i))] 114), some (AO.same 1004 (at' s i).k)] 1100 (((Cnd.p (true = true)).a Cnd.t).a (((Cnd.p (findKey Try.prog (envW [] (hAtF (at' s i).k) [] default F) 3 (AV.v (Value.int IntKind.i64 id)) (mE ptrV s.m) 0 = AP.ret (findS (AV.v (Value.int IntKind.i64 id)) (mE ptrV s.m) 0))).a ((Cnd.p (Wk (AV.tuple [foundX (findS (AV.v (Value.int IntKind.i64 id)) (mE ptrV s.m) 0) (Value.pointer none), AV.v (Value.bool (findS (AV.v (Value.int IntKind.i64 id)) (mE ptrV s.m) 0).isSome)]) (AV.tuple [AV.v (Value.pointer (some (Addr.mk (at' s i).k 0 none))), AV.lit true]))).a Cnd.t)).a (((Cnd.p (Wk (AV.v (Value.pointer (some (Addr.mk (at' s i).k 0 none)))) (AV.v (Value.pointer (some (Addr.mk (at' s i).k 0 none)))))).a Cnd.t).a (((Cnd.p (true = true)).a ((Cnd.p (AV.v (Value.int IntKind.i64 (at' s i).a) = AV.v (Value.int IntKind.i64 (at' s i).a))).a Cnd.t)).a Cnd.t))))) := by kernel_rfl
theorem oAtN_eq (s : Ps) (id : Int) (F : HP) : wRun [] hAtN [] default fAt [.ptr 0 0, iv id] (uM s) [0, 1001, 1002, 1003] F = VT.ite true (VT.leaf (AV.tuple [AV.v (Value.int IntKind.i64 (Int.ofNat 0)), AV.v (Value.bool false)]) [some (AO.cells [AV.slice 1001 0 s.xs.length 1 (Cp.lo (roomOf s)), AV.map 1003, AV.v (Value.int IntKind.i64 s.tn)] 108), some (AO.cells (rowV pv (blocks s)) 110), some (AO.any (famHP 57 (fam 0 s.xs))), some (AO.map (mE ptrV s.m) s.ck)] 1100 (((Cnd.p (true = true)).a Cnd.t).a (((Cnd.p (findKey Try.prog (envW [] hAtN [] default F) 3 (AV.v (Value.int IntKind.i64 id)) (mE ptrV s.m) 0 = AP.ret (findS (AV.v (Value.int IntKind.i64 id)) (mE ptrV s.m) 0))).a ((Cnd.p (Wk (AV.tuple [foundX (findS (AV.v (Value.int IntKind.i64 id)) (mE ptrV s.m) 0) (Value.pointer none), AV.v (Value.bool (findS (AV.v (Value.int IntKind.i64 id)) (mE ptrV s.m) 0).isSome)]) (AV.tuple [AV.v (Value.pointer none), AV.lit false]))).a Cnd.t)).a Cnd.t))) (VT.bad "nilCheck") := by kernel_rfl
theorem oAtN0_eq (s : Ps) (id : Int) (F : HP) : wRun [] hAtN [] default fAt [.ptr 0 0, iv id] (uM0 s) [0, 1003] F = VT.ite true (VT.leaf (AV.tuple [AV.v (Value.int IntKind.i64 (Int.ofNat 0)), AV.v (Value.bool false)]) [some (AO.cells [AV.v (Value.slice none 0 0), AV.map 1003, AV.v (Value.int IntKind.i64 s.tn)] 108), some (AO.map (mE ptrV s.m) s.ck)] 1100 (((Cnd.p (true = true)).a Cnd.t).a (((Cnd.p (findKey Try.prog (envW [] hAtN [] default F) 3 (AV.v (Value.int IntKind.i64 id)) (mE ptrV s.m) 0 = AP.ret (findS (AV.v (Value.int IntKind.i64 id)) (mE ptrV s.m) 0))).a ((Cnd.p (Wk (AV.tuple [foundX (findS (AV.v (Value.int IntKind.i64 id)) (mE ptrV s.m) 0) (Value.pointer none), AV.v (Value.bool (findS (AV.v (Value.int IntKind.i64 id)) (mE ptrV s.m) 0).isSome)]) (AV.tuple [AV.v (Value.pointer none), AV.lit false]))).a Cnd.t)).a Cnd.t))) (VT.bad "nilCheck") := by kernel_rfl
def hNextF : ClaimT := hintL [(fNext, 1, 5, hv (.lit false)), (fNext, 3, 5, hp 1005)]
def hNextE : ClaimT := hintL [(fNext, 1, 5, hv (.lit true))]
theorem oNextF_eq (s : Ps) (F : HP) : wRun [] hNextF [] default fNext [.ptr 0 0] (oC s 0) [0, 1001, 1002, 1003, 1004, 1005] F = VT.leaf (AV.tuple [AV.v (Value.int IntKind.i64 (at' s 0).a), AV.v (Value.bool true)]) [some (AO.cells [AV.slice 1001 0 s.xs.length 1 (Cp.lo (roomOf s)), AV.map 1003, AV.v (Value.int IntKind.i64 s.tn)] 108), some (AO.cells (rowV pv (blocks s)) 110), some (AO.any (famHP 57 ((fam 0 s.xs).eraseIdx 0))), some (AO.map (mE ptrV s.m) s.ck), some (AO.cells [AV.v (Value.int IntKind.i64 (at' s 0).c), AV.v (Value.int IntKind.i64 (at' s 0).a), AV.v (Value.int IntKind.i64 (at' s 0).b), AV.v (Value.int IntKind.i64 (Int.ofNat 0))] 114), some (AO.same 1004 (at' s 0).k)] 1100 (((Cnd.p (true = true)).a Cnd.t).a (((Cnd.p (Wk (AV.v (Value.bool (↑s.xs.length == Int.ofNat 0))) (AV.lit false))).a Cnd.t).a (((Cnd.p (true = true)).a Cnd.t).a (((Cnd.p (Nat.blt 0 s.xs.length = true)).a Cnd.t).a (((Cnd.p (Nat.blt 0 (rowV pv (blocks s)).length = true)).a ((Cnd.p (Wk ((rowV pv (blocks s)).getD 0 (AV.v (Value.tuple (Array.mk [])))) (AV.v (Value.pointer (some (Addr.mk (at' s 0).k 0 none)))))).a Cnd.t)).a (((Cnd.p (true = true)).a ((Cnd.p (AV.v (Value.int IntKind.i64 (at' s 0).a) = AV.v (Value.int IntKind.i64 (at' s 0).a))).a Cnd.t)).a Cnd.t)))))) := by kernel_rfl
theorem oNextE_eq (s : Ps) (F : HP) : wRun [] hNextE [] default fNext [.ptr 0 0] (uM s) [0, 1001, 1002, 1003] F = VT.leaf (AV.tuple [AV.v (Value.int IntKind.i64 (Int.ofNat 0)), AV.v (Value.bool false)]) [some (AO.cells [AV.slice 1001 0 s.xs.length 1 (Cp.lo (roomOf s)), AV.map 1003, AV.v (Value.int IntKind.i64 s.tn)] 108), some (AO.cells (rowV pv (blocks s)) 110), some (AO.any (famHP 57 (fam 0 s.xs))), some (AO.map (mE ptrV s.m) s.ck)] 1100 (((Cnd.p (true = true)).a Cnd.t).a (((Cnd.p (Wk (AV.v (Value.bool (↑s.xs.length == Int.ofNat 0))) (AV.lit true))).a Cnd.t).a Cnd.t)) := by kernel_rfl
theorem oNextE0_eq (s : Ps) (F : HP) : wRun [] hNextE [] default fNext [.ptr 0 0] (uM0 s) [0, 1003] F = VT.leaf (AV.tuple [AV.v (Value.int IntKind.i64 (Int.ofNat 0)), AV.v (Value.bool false)]) [some (AO.cells [AV.v (Value.slice none 0 0), AV.map 1003, AV.v (Value.int IntKind.i64 s.tn)] 108), some (AO.map (mE ptrV s.m) s.ck)] 1100 (((Cnd.p (true = true)).a Cnd.t).a (((Cnd.p (Wk (AV.v (Value.bool true)) (AV.lit true))).a Cnd.t).a Cnd.t)) := by kernel_rfl
theorem oCLen_eq (s : Ps) (F : HP) : wRun [] noHints [] default fCLen [.ptr 0 0] (uM s) [0, 1001, 1002, 1003] F = VT.leaf (AV.v (Value.int IntKind.i64 ↑s.xs.length)) [some (AO.cells [AV.slice 1001 0 s.xs.length 1 (Cp.lo (roomOf s)), AV.map 1003, AV.v (Value.int IntKind.i64 s.tn)] 108), some (AO.cells (rowV pv (blocks s)) 110), some (AO.any (famHP 57 (fam 0 s.xs))), some (AO.map (mE ptrV s.m) s.ck)] 1100 (((Cnd.p (true = true)).a Cnd.t).a Cnd.t) := by kernel_rfl
theorem oCLen0_eq (s : Ps) (F : HP) : wRun [] noHints [] default fCLen [.ptr 0 0] (uM0 s) [0, 1003] F = VT.leaf (AV.v (Value.int IntKind.i64 (Int.ofNat 0))) [some (AO.cells [AV.v (Value.slice none 0 0), AV.map 1003, AV.v (Value.int IntKind.i64 s.tn)] 108), some (AO.map (mE ptrV s.m) s.ck)] 1100 (((Cnd.p (true = true)).a Cnd.t).a Cnd.t) := by kernel_rfl
theorem oNew_eq (F : HP) : wRun [] noHints [] default fNew [] [] [1100, 1101, 1102] F = VT.leaf (AV.ptr 1101 0) [some (AO.map [] 0), some (AO.cells [AV.v (Value.slice none 0 0), AV.map 1100, AV.v (Value.int IntKind.i64 (Int.ofNat 0))] 108), none] 1102 Cnd.t := by kernel_rfl
end
end Go.Proofs.Ytojfbgmeaadanaa.Alm

