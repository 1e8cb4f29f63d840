/- Parts of the proof, merged. -/
import Derived.Test.YtjjjchmkonnpfaaQpc5
import Derived.Test.YtjjjchmkonnpfaaEngSorted
import Derived.Test.YtjjjchmkonnpfaaEngKit
import Derived.Test.YtjjjchmkonnpfaaRows
import Derived.Test.YtjjjchmkonnpfaaQpc2
import Derived.ProofKit
import Derived.OpenShut
import Derived.Deep.Fields
noncomputable section
set_option linter.unusedVariables false
set_option linter.unusedSimpArgs false
set_option maxRecDepth 100000
set_option maxHeartbeats 400000
set_option linter.unusedSectionVars false
namespace Go.Proofs.Ytjjjchmkonnpfaa.Qb
open Go Go.RowKit Eng Kit Tree
noncomputable section
structure Op where
 kd : Int
 N : Int
 k : Kc
 cf : Cf
 ca : Option Addr
 cl : Nat
 cc : Nat
abbrev tOp : TypeId := 2 * 53
def opA (o : Op) : List AV := [iv o.kd, iv o.N, iv o.k.sq, iv o.k.gh, iv o.k.bo, iv o.k.si, sv o.k.ex, sv o.k.ke, iv o.k.fl, sv o.k.ct, sv o.k.ce, slV o.k.ha o.k.f.length o.k.hc, iv o.k.dm, iv o.k.pr, sv o.k.s1, sv o.k.s2, sv o.k.s3, sv o.k.s4, iv o.k.ts, sv o.k.s5, sv o.k.s6, sv o.k.s7, iv o.k.xp, iv o.k.pi, slV o.k.ta o.k.tr.length o.k.tc, bv o.k.du, bv o.k.re, iv o.cf.t1, iv o.cf.t2, iv o.cf.ml, iv o.cf.mp, sv o.cf.a1, sv o.cf.a2, sv o.cf.a3, bv o.cf.b1, bv o.cf.b2, bv o.cf.b3, slV o.ca o.cl o.cc]
def opO (o : Op) : AO := .cells (opA o) tOp
abbrev tT : AV := .lit true
abbrev tF : AV := .lit false
def blk : Code -> Code
 | .block _ c => c
 | c => c
def rb : Code := AH' fLaw 9
def rX : Code := blk (fst (snd (snd rb)))
def rY : Code := blk (snd (fst (snd (snd rX))))
def rR : Code := snd (snd (snd rX))
theorem rb_eq : rb = .seq (fst rb) (.seq (fst (snd rb)) (.seq (.block 1 rX) (snd (snd (snd rb))))) := χ
theorem rX_eq : rX = .seq (fst rX) (.seq (fst (snd rX)) (.seq (.seq (fst (fst (snd (snd rX)))) (.block 2 rY)) rR)) := χ
theorem rY_eq : rY = .seq (fst rY) (snd rY) := χ
def oL (Q B O : AO) : LH := [(2, Q), (3, B), (1004, O)]
def oP (Q B O : AO) (o : Op) : LH := [(2, Q), (3, B), (1004, O), (1011, opO o)]
def kP : List Nat := [2, 3, 1004, 1011, 1100, 1101, 1102, 1103, 1104, 1105, 1106, 1107, 1108]
def bP (g : Lf) (l : List (Nat × AV)) : List (Nat × AV) := [(5, .ptr 2 0), (6, .ptr 3 0), (7, clG), (9, .ptr 1011 0)] ++ l ++ [(31, slV g.sa g.n g.c), (32, iv (Int.ofNat g.n)), (33, iv (Int.ofNat g.j))]
def iP (l : List Nat) : List Nat := [5, 6, 7, 9] ++ l ++ [31, 32, 33]
theorem oD0_eq (g : Lf) (B O : AO) (F : HP) : B0' [] (AJ' [ht' fLaw 9 0]) [] default fLaw (fst rb) (tms 0 152 (bL g)) (oL g.Q B O) kP [5, 6, 7, 31, 32, 33, 34] F = VT.leaf (AX.normal,[AV.ptr 2 0,AV.ptr 3 0,AV.func (Fn.func 19) [] [AV.ptr 3 0],AV.v (Value.slice g.sa g.n g.c),i' g.n,i' g.j,j'],152) [some g.Q,some B,some O,none,none,none,none,none,none,none,none,none,none] 1100 ((wb' (decide (Int.ofNat g.j < Int.ofNat g.n)) j').a k1') := χ
theorem oD1_eq (g : Lf) (B O : AO) (F : HP) : B0' [] AF' [] default fLaw (fst (snd rb)) (tms 0 152 (bL g ++ [(34, .lit true)])) (oL g.Q B O) kP [5, 6, 7, 31, 32, 33] F = VT.leaf (AX.normal,[AV.ptr 2 0,AV.ptr 3 0,AV.func (Fn.func 19) [] [AV.ptr 3 0],AV.v (Value.slice g.sa g.n g.c),i' g.n,i' g.j],152) [some g.Q,some B,some O,none,none,none,none,none,none,none,none,none,none] 1100 k1' := χ
theorem oD2_eq (W : World) (a : Addr) (n c j : Nat) (Q B O : AO) (o : Op) (F : HP) : B0' [] (AJ' [(fLaw, 10, 1, hv (.agg (opA o)))]) [] W fLaw (fst rX) (tms 0 152 (bL ⟨some a, n, c, j, Q⟩)) (oL Q B O) kP [5, 6, 7, 9, 31, 32, 33] F = VT.leaf (AX.normal,[AV.ptr 2 0,AV.ptr 3 0,AV.func (Fn.func 19) [] [AV.ptr 3 0],AV.ptr 1100 0,AV.v (Value.slice (some a) n c),i' n,i' j],152) [some Q,some B,some O,none,some (AO.cells [z' o.kd,z' o.N,z' o.k.sq,z' o.k.gh,z' o.k.bo,z' o.k.si,s' o.k.ex,s' o.k.ke,z' o.k.fl,s' o.k.ct,s' o.k.ce,AV.v (Value.slice o.k.ha (List.length o.k.f) o.k.hc),z' o.k.dm,z' o.k.pr,s' o.k.s1,s' o.k.s2,s' o.k.s3,s' o.k.s4,z' o.k.ts,s' o.k.s5,s' o.k.s6,s' o.k.s7,z' o.k.xp,z' o.k.pi,AV.v (Value.slice o.k.ta o.k.tr.length o.k.tc),b' o.k.du,b' o.k.re,z' o.cf.t1,z' o.cf.t2,z' o.cf.ml,z' o.cf.mp,s' o.cf.a1,s' o.cf.a2,s' o.cf.a3,b' o.cf.b1,b' o.cf.b2,b' o.cf.b3,AV.v (Value.slice o.ca o.cl o.cc)] 106),none,none,none,none,none,none,none,none] 1101 ((f' (j.blt n = true)).a (((p' (([0,1,2,3,4,5,6,7,8,9,10,11,12,13,14,15,16,17,18,19,20,21,22,23,24,25,26,27,28,29,30,31,32,33,34,35,36,37].all fun j_1 => (W.cell? ((a.add (j * 38)).add j_1)).isSome) = true)).a ((p' ([AV.v ((W.cell? ((a.add (j * 38)).add 0)).getD (Value.tuple (Array.mk []))),AV.v ((W.cell? (Addr.mk (a.add (j * 38)).block ((a.add (j * 38)).off + 1) none)).getD (Value.tuple (Array.mk []))),AV.v ((W.cell? (Addr.mk (a.add (j * 38)).block ((a.add (j * 38)).off + 2) none)).getD (Value.tuple (Array.mk []))),AV.v ((W.cell? (Addr.mk (a.add (j * 38)).block ((a.add (j * 38)).off + 3) none)).getD (Value.tuple (Array.mk []))),AV.v ((W.cell? (Addr.mk (a.add (j * 38)).block ((a.add (j * 38)).off + 4) none)).getD (Value.tuple (Array.mk []))),AV.v ((W.cell? (Addr.mk (a.add (j * 38)).block ((a.add (j * 38)).off + 5) none)).getD (Value.tuple (Array.mk []))),AV.v ((W.cell? (Addr.mk (a.add (j * 38)).block ((a.add (j * 38)).off + 6) none)).getD (Value.tuple (Array.mk []))),AV.v ((W.cell? (Addr.mk (a.add (j * 38)).block ((a.add (j * 38)).off + 7) none)).getD (Value.tuple (Array.mk []))),AV.v ((W.cell? (Addr.mk (a.add (j * 38)).block ((a.add (j * 38)).off + 8) none)).getD (Value.tuple (Array.mk []))),AV.v ((W.cell? (Addr.mk (a.add (j * 38)).block ((a.add (j * 38)).off + 9) none)).getD (Value.tuple (Array.mk []))),AV.v ((W.cell? (Addr.mk (a.add (j * 38)).block ((a.add (j * 38)).off + 10) none)).getD (Value.tuple (Array.mk []))),AV.v ((W.cell? (Addr.mk (a.add (j * 38)).block ((a.add (j * 38)).off + 11) none)).getD (Value.tuple (Array.mk []))),AV.v ((W.cell? (Addr.mk (a.add (j * 38)).block ((a.add (j * 38)).off + 12) none)).getD (Value.tuple (Array.mk []))),AV.v ((W.cell? (Addr.mk (a.add (j * 38)).block ((a.add (j * 38)).off + 13) none)).getD (Value.tuple (Array.mk []))),AV.v ((W.cell? (Addr.mk (a.add (j * 38)).block ((a.add (j * 38)).off + 14) none)).getD (Value.tuple (Array.mk []))),AV.v ((W.cell? (Addr.mk (a.add (j * 38)).block ((a.add (j * 38)).off + 15) none)).getD (Value.tuple (Array.mk []))),AV.v ((W.cell? (Addr.mk (a.add (j * 38)).block ((a.add (j * 38)).off + 16) none)).getD (Value.tuple (Array.mk []))),AV.v ((W.cell? (Addr.mk (a.add (j * 38)).block ((a.add (j * 38)).off + 17) none)).getD (Value.tuple (Array.mk []))),AV.v ((W.cell? (Addr.mk (a.add (j * 38)).block ((a.add (j * 38)).off + 18) none)).getD (Value.tuple (Array.mk []))),AV.v ((W.cell? (Addr.mk (a.add (j * 38)).block ((a.add (j * 38)).off + 19) none)).getD (Value.tuple (Array.mk []))),AV.v ((W.cell? (Addr.mk (a.add (j * 38)).block ((a.add (j * 38)).off + 20) none)).getD (Value.tuple (Array.mk []))),AV.v ((W.cell? (Addr.mk (a.add (j * 38)).block ((a.add (j * 38)).off + 21) none)).getD (Value.tuple (Array.mk []))),AV.v ((W.cell? (Addr.mk (a.add (j * 38)).block ((a.add (j * 38)).off + 22) none)).getD (Value.tuple (Array.mk []))),AV.v ((W.cell? (Addr.mk (a.add (j * 38)).block ((a.add (j * 38)).off + 23) none)).getD (Value.tuple (Array.mk []))),AV.v ((W.cell? (Addr.mk (a.add (j * 38)).block ((a.add (j * 38)).off + 24) none)).getD (Value.tuple (Array.mk []))),AV.v ((W.cell? (Addr.mk (a.add (j * 38)).block ((a.add (j * 38)).off + 25) none)).getD (Value.tuple (Array.mk []))),AV.v ((W.cell? (Addr.mk (a.add (j * 38)).block ((a.add (j * 38)).off + 26) none)).getD (Value.tuple (Array.mk []))),AV.v ((W.cell? (Addr.mk (a.add (j * 38)).block ((a.add (j * 38)).off + 27) none)).getD (Value.tuple (Array.mk []))),AV.v ((W.cell? (Addr.mk (a.add (j * 38)).block ((a.add (j * 38)).off + 28) none)).getD (Value.tuple (Array.mk []))),AV.v ((W.cell? (Addr.mk (a.add (j * 38)).block ((a.add (j * 38)).off + 29) none)).getD (Value.tuple (Array.mk []))),AV.v ((W.cell? (Addr.mk (a.add (j * 38)).block ((a.add (j * 38)).off + 30) none)).getD (Value.tuple (Array.mk []))),AV.v ((W.cell? (Addr.mk (a.add (j * 38)).block ((a.add (j * 38)).off + 31) none)).getD (Value.tuple (Array.mk []))),AV.v ((W.cell? (Addr.mk (a.add (j * 38)).block ((a.add (j * 38)).off + 32) none)).getD (Value.tuple (Array.mk []))),AV.v ((W.cell? (Addr.mk (a.add (j * 38)).block ((a.add (j * 38)).off + 33) none)).getD (Value.tuple (Array.mk []))),AV.v ((W.cell? (Addr.mk (a.add (j * 38)).block ((a.add (j * 38)).off + 34) none)).getD (Value.tuple (Array.mk []))),AV.v ((W.cell? (Addr.mk (a.add (j * 38)).block ((a.add (j * 38)).off + 35) none)).getD (Value.tuple (Array.mk []))),AV.v ((W.cell? (Addr.mk (a.add (j * 38)).block ((a.add (j * 38)).off + 36) none)).getD (Value.tuple (Array.mk []))),AV.v ((W.cell? (Addr.mk (a.add (j * 38)).block ((a.add (j * 38)).off + 37) none)).getD (Value.tuple (Array.mk [])))] = [AV.v (Value.int IntKind.i64 (AV.v ((W.cell? ((a.add (j * 38)).add 0)).getD (Value.tuple (Array.mk [])))).intOf),AV.v (Value.int IntKind.i64 (AV.v ((W.cell? (Addr.mk (a.add (j * 38)).block ((a.add (j * 38)).off + 1) none)).getD (Value.tuple (Array.mk [])))).intOf),AV.v (Value.int IntKind.i64 (AV.v ((W.cell? (Addr.mk (a.add (j * 38)).block ((a.add (j * 38)).off + 2) none)).getD (Value.tuple (Array.mk [])))).intOf),AV.v (Value.int IntKind.i64 (AV.v ((W.cell? (Addr.mk (a.add (j * 38)).block ((a.add (j * 38)).off + 3) none)).getD (Value.tuple (Array.mk [])))).intOf),AV.v (Value.int IntKind.i64 (AV.v ((W.cell? (Addr.mk (a.add (j * 38)).block ((a.add (j * 38)).off + 4) none)).getD (Value.tuple (Array.mk [])))).intOf),AV.v (Value.int IntKind.i64 (AV.v ((W.cell? (Addr.mk (a.add (j * 38)).block ((a.add (j * 38)).off + 5) none)).getD (Value.tuple (Array.mk [])))).intOf),AV.v (Value.string (AV.v ((W.cell? (Addr.mk (a.add (j * 38)).block ((a.add (j * 38)).off + 6) none)).getD (Value.tuple (Array.mk [])))).strOf),AV.v (Value.string (AV.v ((W.cell? (Addr.mk (a.add (j * 38)).block ((a.add (j * 38)).off + 7) none)).getD (Value.tuple (Array.mk [])))).strOf),AV.v (Value.int IntKind.i64 (AV.v ((W.cell? (Addr.mk (a.add (j * 38)).block ((a.add (j * 38)).off + 8) none)).getD (Value.tuple (Array.mk [])))).intOf),AV.v (Value.string (AV.v ((W.cell? (Addr.mk (a.add (j * 38)).block ((a.add (j * 38)).off + 9) none)).getD (Value.tuple (Array.mk [])))).strOf),AV.v (Value.string (AV.v ((W.cell? (Addr.mk (a.add (j * 38)).block ((a.add (j * 38)).off + 10) none)).getD (Value.tuple (Array.mk [])))).strOf),AV.v ((W.cell? (Addr.mk (a.add (j * 38)).block ((a.add (j * 38)).off + 11) none)).getD (Value.tuple (Array.mk []))),AV.v (Value.int IntKind.i64 (AV.v ((W.cell? (Addr.mk (a.add (j * 38)).block ((a.add (j * 38)).off + 12) none)).getD (Value.tuple (Array.mk [])))).intOf),AV.v (Value.int IntKind.i64 (AV.v ((W.cell? (Addr.mk (a.add (j * 38)).block ((a.add (j * 38)).off + 13) none)).getD (Value.tuple (Array.mk [])))).intOf),AV.v (Value.string (AV.v ((W.cell? (Addr.mk (a.add (j * 38)).block ((a.add (j * 38)).off + 14) none)).getD (Value.tuple (Array.mk [])))).strOf),AV.v (Value.string (AV.v ((W.cell? (Addr.mk (a.add (j * 38)).block ((a.add (j * 38)).off + 15) none)).getD (Value.tuple (Array.mk [])))).strOf),AV.v (Value.string (AV.v ((W.cell? (Addr.mk (a.add (j * 38)).block ((a.add (j * 38)).off + 16) none)).getD (Value.tuple (Array.mk [])))).strOf),AV.v (Value.string (AV.v ((W.cell? (Addr.mk (a.add (j * 38)).block ((a.add (j * 38)).off + 17) none)).getD (Value.tuple (Array.mk [])))).strOf),AV.v (Value.int IntKind.i64 (AV.v ((W.cell? (Addr.mk (a.add (j * 38)).block ((a.add (j * 38)).off + 18) none)).getD (Value.tuple (Array.mk [])))).intOf),AV.v (Value.string (AV.v ((W.cell? (Addr.mk (a.add (j * 38)).block ((a.add (j * 38)).off + 19) none)).getD (Value.tuple (Array.mk [])))).strOf),AV.v (Value.string (AV.v ((W.cell? (Addr.mk (a.add (j * 38)).block ((a.add (j * 38)).off + 20) none)).getD (Value.tuple (Array.mk [])))).strOf),AV.v (Value.string (AV.v ((W.cell? (Addr.mk (a.add (j * 38)).block ((a.add (j * 38)).off + 21) none)).getD (Value.tuple (Array.mk [])))).strOf),AV.v (Value.int IntKind.i64 (AV.v ((W.cell? (Addr.mk (a.add (j * 38)).block ((a.add (j * 38)).off + 22) none)).getD (Value.tuple (Array.mk [])))).intOf),AV.v (Value.int IntKind.i64 (AV.v ((W.cell? (Addr.mk (a.add (j * 38)).block ((a.add (j * 38)).off + 23) none)).getD (Value.tuple (Array.mk [])))).intOf),AV.v ((W.cell? (Addr.mk (a.add (j * 38)).block ((a.add (j * 38)).off + 24) none)).getD (Value.tuple (Array.mk []))),AV.v (Value.bool (AV.v ((W.cell? (Addr.mk (a.add (j * 38)).block ((a.add (j * 38)).off + 25) none)).getD (Value.tuple (Array.mk [])))).boolOf),AV.v (Value.bool (AV.v ((W.cell? (Addr.mk (a.add (j * 38)).block ((a.add (j * 38)).off + 26) none)).getD (Value.tuple (Array.mk [])))).boolOf),AV.v (Value.int IntKind.i64 (AV.v ((W.cell? (Addr.mk (a.add (j * 38)).block ((a.add (j * 38)).off + 27) none)).getD (Value.tuple (Array.mk [])))).intOf),AV.v (Value.int IntKind.i64 (AV.v ((W.cell? (Addr.mk (a.add (j * 38)).block ((a.add (j * 38)).off + 28) none)).getD (Value.tuple (Array.mk [])))).intOf),AV.v (Value.int IntKind.i64 (AV.v ((W.cell? (Addr.mk (a.add (j * 38)).block ((a.add (j * 38)).off + 29) none)).getD (Value.tuple (Array.mk [])))).intOf),AV.v (Value.int IntKind.i64 (AV.v ((W.cell? (Addr.mk (a.add (j * 38)).block ((a.add (j * 38)).off + 30) none)).getD (Value.tuple (Array.mk [])))).intOf),AV.v (Value.string (AV.v ((W.cell? (Addr.mk (a.add (j * 38)).block ((a.add (j * 38)).off + 31) none)).getD (Value.tuple (Array.mk [])))).strOf),AV.v (Value.string (AV.v ((W.cell? (Addr.mk (a.add (j * 38)).block ((a.add (j * 38)).off + 32) none)).getD (Value.tuple (Array.mk [])))).strOf),AV.v (Value.string (AV.v ((W.cell? (Addr.mk (a.add (j * 38)).block ((a.add (j * 38)).off + 33) none)).getD (Value.tuple (Array.mk [])))).strOf),AV.v (Value.bool (AV.v ((W.cell? (Addr.mk (a.add (j * 38)).block ((a.add (j * 38)).off + 34) none)).getD (Value.tuple (Array.mk [])))).boolOf),AV.v (Value.bool (AV.v ((W.cell? (Addr.mk (a.add (j * 38)).block ((a.add (j * 38)).off + 35) none)).getD (Value.tuple (Array.mk [])))).boolOf),AV.v (Value.bool (AV.v ((W.cell? (Addr.mk (a.add (j * 38)).block ((a.add (j * 38)).off + 36) none)).getD (Value.tuple (Array.mk [])))).boolOf),AV.v ((W.cell? (Addr.mk (a.add (j * 38)).block ((a.add (j * 38)).off + 37) none)).getD (Value.tuple (Array.mk [])))])).a (f' (Wk (AV.agg [AV.v (Value.int IntKind.i64 (AV.v ((W.cell? ((a.add (j * 38)).add 0)).getD (Value.tuple (Array.mk [])))).intOf),AV.v (Value.int IntKind.i64 (AV.v ((W.cell? (Addr.mk (a.add (j * 38)).block ((a.add (j * 38)).off + 1) none)).getD (Value.tuple (Array.mk [])))).intOf),AV.v (Value.int IntKind.i64 (AV.v ((W.cell? (Addr.mk (a.add (j * 38)).block ((a.add (j * 38)).off + 2) none)).getD (Value.tuple (Array.mk [])))).intOf),AV.v (Value.int IntKind.i64 (AV.v ((W.cell? (Addr.mk (a.add (j * 38)).block ((a.add (j * 38)).off + 3) none)).getD (Value.tuple (Array.mk [])))).intOf),AV.v (Value.int IntKind.i64 (AV.v ((W.cell? (Addr.mk (a.add (j * 38)).block ((a.add (j * 38)).off + 4) none)).getD (Value.tuple (Array.mk [])))).intOf),AV.v (Value.int IntKind.i64 (AV.v ((W.cell? (Addr.mk (a.add (j * 38)).block ((a.add (j * 38)).off + 5) none)).getD (Value.tuple (Array.mk [])))).intOf),AV.v (Value.string (AV.v ((W.cell? (Addr.mk (a.add (j * 38)).block ((a.add (j * 38)).off + 6) none)).getD (Value.tuple (Array.mk [])))).strOf),AV.v (Value.string (AV.v ((W.cell? (Addr.mk (a.add (j * 38)).block ((a.add (j * 38)).off + 7) none)).getD (Value.tuple (Array.mk [])))).strOf),AV.v (Value.int IntKind.i64 (AV.v ((W.cell? (Addr.mk (a.add (j * 38)).block ((a.add (j * 38)).off + 8) none)).getD (Value.tuple (Array.mk [])))).intOf),AV.v (Value.string (AV.v ((W.cell? (Addr.mk (a.add (j * 38)).block ((a.add (j * 38)).off + 9) none)).getD (Value.tuple (Array.mk [])))).strOf),AV.v (Value.string (AV.v ((W.cell? (Addr.mk (a.add (j * 38)).block ((a.add (j * 38)).off + 10) none)).getD (Value.tuple (Array.mk [])))).strOf),AV.v ((W.cell? (Addr.mk (a.add (j * 38)).block ((a.add (j * 38)).off + 11) none)).getD (Value.tuple (Array.mk []))),AV.v (Value.int IntKind.i64 (AV.v ((W.cell? (Addr.mk (a.add (j * 38)).block ((a.add (j * 38)).off + 12) none)).getD (Value.tuple (Array.mk [])))).intOf),AV.v (Value.int IntKind.i64 (AV.v ((W.cell? (Addr.mk (a.add (j * 38)).block ((a.add (j * 38)).off + 13) none)).getD (Value.tuple (Array.mk [])))).intOf),AV.v (Value.string (AV.v ((W.cell? (Addr.mk (a.add (j * 38)).block ((a.add (j * 38)).off + 14) none)).getD (Value.tuple (Array.mk [])))).strOf),AV.v (Value.string (AV.v ((W.cell? (Addr.mk (a.add (j * 38)).block ((a.add (j * 38)).off + 15) none)).getD (Value.tuple (Array.mk [])))).strOf),AV.v (Value.string (AV.v ((W.cell? (Addr.mk (a.add (j * 38)).block ((a.add (j * 38)).off + 16) none)).getD (Value.tuple (Array.mk [])))).strOf),AV.v (Value.string (AV.v ((W.cell? (Addr.mk (a.add (j * 38)).block ((a.add (j * 38)).off + 17) none)).getD (Value.tuple (Array.mk [])))).strOf),AV.v (Value.int IntKind.i64 (AV.v ((W.cell? (Addr.mk (a.add (j * 38)).block ((a.add (j * 38)).off + 18) none)).getD (Value.tuple (Array.mk [])))).intOf),AV.v (Value.string (AV.v ((W.cell? (Addr.mk (a.add (j * 38)).block ((a.add (j * 38)).off + 19) none)).getD (Value.tuple (Array.mk [])))).strOf),AV.v (Value.string (AV.v ((W.cell? (Addr.mk (a.add (j * 38)).block ((a.add (j * 38)).off + 20) none)).getD (Value.tuple (Array.mk [])))).strOf),AV.v (Value.string (AV.v ((W.cell? (Addr.mk (a.add (j * 38)).block ((a.add (j * 38)).off + 21) none)).getD (Value.tuple (Array.mk [])))).strOf),AV.v (Value.int IntKind.i64 (AV.v ((W.cell? (Addr.mk (a.add (j * 38)).block ((a.add (j * 38)).off + 22) none)).getD (Value.tuple (Array.mk [])))).intOf),AV.v (Value.int IntKind.i64 (AV.v ((W.cell? (Addr.mk (a.add (j * 38)).block ((a.add (j * 38)).off + 23) none)).getD (Value.tuple (Array.mk [])))).intOf),AV.v ((W.cell? (Addr.mk (a.add (j * 38)).block ((a.add (j * 38)).off + 24) none)).getD (Value.tuple (Array.mk []))),AV.v (Value.bool (AV.v ((W.cell? (Addr.mk (a.add (j * 38)).block ((a.add (j * 38)).off + 25) none)).getD (Value.tuple (Array.mk [])))).boolOf),AV.v (Value.bool (AV.v ((W.cell? (Addr.mk (a.add (j * 38)).block ((a.add (j * 38)).off + 26) none)).getD (Value.tuple (Array.mk [])))).boolOf),AV.v (Value.int IntKind.i64 (AV.v ((W.cell? (Addr.mk (a.add (j * 38)).block ((a.add (j * 38)).off + 27) none)).getD (Value.tuple (Array.mk [])))).intOf),AV.v (Value.int IntKind.i64 (AV.v ((W.cell? (Addr.mk (a.add (j * 38)).block ((a.add (j * 38)).off + 28) none)).getD (Value.tuple (Array.mk [])))).intOf),AV.v (Value.int IntKind.i64 (AV.v ((W.cell? (Addr.mk (a.add (j * 38)).block ((a.add (j * 38)).off + 29) none)).getD (Value.tuple (Array.mk [])))).intOf),AV.v (Value.int IntKind.i64 (AV.v ((W.cell? (Addr.mk (a.add (j * 38)).block ((a.add (j * 38)).off + 30) none)).getD (Value.tuple (Array.mk [])))).intOf),AV.v (Value.string (AV.v ((W.cell? (Addr.mk (a.add (j * 38)).block ((a.add (j * 38)).off + 31) none)).getD (Value.tuple (Array.mk [])))).strOf),AV.v (Value.string (AV.v ((W.cell? (Addr.mk (a.add (j * 38)).block ((a.add (j * 38)).off + 32) none)).getD (Value.tuple (Array.mk [])))).strOf),AV.v (Value.string (AV.v ((W.cell? (Addr.mk (a.add (j * 38)).block ((a.add (j * 38)).off + 33) none)).getD (Value.tuple (Array.mk [])))).strOf),AV.v (Value.bool (AV.v ((W.cell? (Addr.mk (a.add (j * 38)).block ((a.add (j * 38)).off + 34) none)).getD (Value.tuple (Array.mk [])))).boolOf),AV.v (Value.bool (AV.v ((W.cell? (Addr.mk (a.add (j * 38)).block ((a.add (j * 38)).off + 35) none)).getD (Value.tuple (Array.mk [])))).boolOf),AV.v (Value.bool (AV.v ((W.cell? (Addr.mk (a.add (j * 38)).block ((a.add (j * 38)).off + 36) none)).getD (Value.tuple (Array.mk [])))).boolOf),AV.v ((W.cell? (Addr.mk (a.add (j * 38)).block ((a.add (j * 38)).off + 37) none)).getD (Value.tuple (Array.mk [])))]) (AV.agg [z' o.kd,z' o.N,z' o.k.sq,z' o.k.gh,z' o.k.bo,z' o.k.si,s' o.k.ex,s' o.k.ke,z' o.k.fl,s' o.k.ct,s' o.k.ce,AV.v (Value.slice o.k.ha (List.length o.k.f) o.k.hc),z' o.k.dm,z' o.k.pr,s' o.k.s1,s' o.k.s2,s' o.k.s3,s' o.k.s4,z' o.k.ts,s' o.k.s5,s' o.k.s6,s' o.k.s7,z' o.k.xp,z' o.k.pi,AV.v (Value.slice o.k.ta o.k.tr.length o.k.tc),b' o.k.du,b' o.k.re,z' o.cf.t1,z' o.cf.t2,z' o.cf.ml,z' o.cf.mp,s' o.cf.a1,s' o.cf.a2,s' o.cf.a3,b' o.cf.b1,b' o.cf.b2,b' o.cf.b3,AV.v (Value.slice o.ca o.cl o.cc)]))))).a (k6'.a k1'))) := χ
theorem oD3_eq (g : Lf) (B O : AO) (o : Op) (F : HP) : B0' [] AF' [] default fLaw (fst (snd rX)) (tms 0 152 (bP g [])) (oP g.Q B O o) kP (iP [10]) F = VT.leaf (AX.normal,[AV.ptr 2 0,AV.ptr 3 0,AV.func (Fn.func 19) [] [AV.ptr 3 0],AV.ptr 1011 0,b' true,AV.v (Value.slice g.sa g.n g.c),i' g.n,i' g.j],152) [some g.Q,some B,some O,some (AO.cells [z' o.kd,z' o.N,z' o.k.sq,z' o.k.gh,z' o.k.bo,z' o.k.si,s' o.k.ex,s' o.k.ke,z' o.k.fl,s' o.k.ct,s' o.k.ce,AV.v (Value.slice o.k.ha (List.length o.k.f) o.k.hc),z' o.k.dm,z' o.k.pr,s' o.k.s1,s' o.k.s2,s' o.k.s3,s' o.k.s4,z' o.k.ts,s' o.k.s5,s' o.k.s6,s' o.k.s7,z' o.k.xp,z' o.k.pi,AV.v (Value.slice o.k.ta o.k.tr.length o.k.tc),b' o.k.du,b' o.k.re,z' o.cf.t1,z' o.cf.t2,z' o.cf.ml,z' o.cf.mp,s' o.cf.a1,s' o.cf.a2,s' o.cf.a3,b' o.cf.b1,b' o.cf.b2,b' o.cf.b3,AV.v (Value.slice o.ca o.cl o.cc)] 106),none,none,none,none,none,none,none,none,none] 1100 k1' := χ
theorem oD4_eq (g : Lf) (B O : AO) (o : Op) (kd : Int) (F : HP) : B0' [] (AJ' [(fLaw, 12, 2, hv (iv kd))]) [] default fLaw (fst (fst (snd (snd rX)))) (tms 0 152 (bP g [(10, bv true)])) (oP g.Q B O o) kP [5, 6, 7, 9, 10, 31, 32, 33, 39] F = VT.leaf (AX.normal,[AV.ptr 2 0,AV.ptr 3 0,AV.func (Fn.func 19) [] [AV.ptr 3 0],AV.ptr 1011 0,b' true,AV.v (Value.slice g.sa g.n g.c),i' g.n,i' g.j,z' kd],152) [some g.Q,some B,some O,some (AO.cells [z' o.kd,z' o.N,z' o.k.sq,z' o.k.gh,z' o.k.bo,z' o.k.si,s' o.k.ex,s' o.k.ke,z' o.k.fl,s' o.k.ct,s' o.k.ce,AV.v (Value.slice o.k.ha (List.length o.k.f) o.k.hc),z' o.k.dm,z' o.k.pr,s' o.k.s1,s' o.k.s2,s' o.k.s3,s' o.k.s4,z' o.k.ts,s' o.k.s5,s' o.k.s6,s' o.k.s7,z' o.k.xp,z' o.k.pi,AV.v (Value.slice o.k.ta o.k.tr.length o.k.tc),b' o.k.du,b' o.k.re,z' o.cf.t1,z' o.cf.t2,z' o.cf.ml,z' o.cf.mp,s' o.cf.a1,s' o.cf.a2,s' o.cf.a3,b' o.cf.b1,b' o.cf.b2,b' o.cf.b3,AV.v (Value.slice o.ca o.cl o.cc)] 106),none,none,none,none,none,none,none,none,none] 1100 ((ee' (z' o.kd)).a ((f' (Wk (z' (IntKind.i64.wrap ↑(BitVec.ofInt 64 o.kd &&& BitVec.ofInt 64 (Int.ofNat 7)).toNat)) (z' kd))).a k1')) := χ
def b4 (g : Lf) (kd : Int) (l : List (Nat × AV)) : List (Nat × AV) := [(5, .ptr 2 0), (6, .ptr 3 0), (7, clG), (9, .ptr 1011 0), (10, bv true), (31, slV g.sa g.n g.c), (32, iv (Int.ofNat g.n)), (33, iv (Int.ofNat g.j)), (39, iv kd)] ++ l
def i4 (l : List Nat) : List Nat := [5, 6, 7, 9, 10, 31, 32, 33, 39] ++ l
theorem fJ' (g : Lf) (B O : AO) (o : Op) (kd : Int) (F : HP) : B0' [] (AJ' [(fLaw, 14, 0, hv tT)]) [] default fLaw (fst rY) (tms 0 152 (b4 g kd [])) (oP g.Q B O o) kP (i4 [46]) F = VT.leaf (AX.normal,[AV.ptr 2 0,AV.ptr 3 0,AV.func (Fn.func 19) [] [AV.ptr 3 0],AV.ptr 1011 0,b' true,AV.v (Value.slice g.sa g.n g.c),i' g.n,i' g.j,z' kd,j'],152) [some g.Q,some B,some O,some (AO.cells [z' o.kd,z' o.N,z' o.k.sq,z' o.k.gh,z' o.k.bo,z' o.k.si,s' o.k.ex,s' o.k.ke,z' o.k.fl,s' o.k.ct,s' o.k.ce,AV.v (Value.slice o.k.ha (List.length o.k.f) o.k.hc),z' o.k.dm,z' o.k.pr,s' o.k.s1,s' o.k.s2,s' o.k.s3,s' o.k.s4,z' o.k.ts,s' o.k.s5,s' o.k.s6,s' o.k.s7,z' o.k.xp,z' o.k.pi,AV.v (Value.slice o.k.ta o.k.tr.length o.k.tc),b' o.k.du,b' o.k.re,z' o.cf.t1,z' o.cf.t2,z' o.cf.ml,z' o.cf.mp,s' o.cf.a1,s' o.cf.a2,s' o.cf.a3,b' o.cf.b1,b' o.cf.b2,b' o.cf.b3,AV.v (Value.slice o.ca o.cl o.cc)] 106),none,none,none,none,none,none,none,none,none] 1100 ((wb' (kd == Int.ofNat 0) j').a k1') := χ
abbrev k87' (q0 : Int) : Cnd := (wb' (q0 == Int.ofNat 0) g')
theorem fI' (g : Lf) (B O : AO) (o : Op) (kd : Int) (F : HP) : B0' [] (AJ' [(fLaw, 14, 0, hv tF), (fLaw, 15, 0, hv tT)]) [] default fLaw (fst rY) (tms 0 152 (b4 g kd [])) (oP g.Q B O o) kP (i4 [46]) F = VT.leaf (AX.normal,[AV.ptr 2 0,AV.ptr 3 0,AV.func (Fn.func 19) [] [AV.ptr 3 0],AV.ptr 1011 0,b' true,AV.v (Value.slice g.sa g.n g.c),i' g.n,i' g.j,z' kd,j'],152) [some g.Q,some B,some O,some (AO.cells [z' o.kd,z' o.N,z' o.k.sq,z' o.k.gh,z' o.k.bo,z' o.k.si,s' o.k.ex,s' o.k.ke,z' o.k.fl,s' o.k.ct,s' o.k.ce,AV.v (Value.slice o.k.ha (List.length o.k.f) o.k.hc),z' o.k.dm,z' o.k.pr,s' o.k.s1,s' o.k.s2,s' o.k.s3,s' o.k.s4,z' o.k.ts,s' o.k.s5,s' o.k.s6,s' o.k.s7,z' o.k.xp,z' o.k.pi,AV.v (Value.slice o.k.ta o.k.tr.length o.k.tc),b' o.k.du,b' o.k.re,z' o.cf.t1,z' o.cf.t2,z' o.cf.ml,z' o.cf.mp,s' o.cf.a1,s' o.cf.a2,s' o.cf.a3,b' o.cf.b1,b' o.cf.b2,b' o.cf.b3,AV.v (Value.slice o.ca o.cl o.cc)] 106),none,none,none,none,none,none,none,none,none] 1100 ((k87' kd).a ((wb' (kd == Int.ofNat 1) j').a k1')) := χ
abbrev k88' (q0 : Int) : Cnd := (wb' (q0 == Int.ofNat 1) g')
theorem fH' (g : Lf) (B O : AO) (o : Op) (kd : Int) (F : HP) : B0' [] (AJ' [(fLaw, 14, 0, hv tF), (fLaw, 15, 0, hv tF), (fLaw, 16, 0, hv tT)]) [] default fLaw (fst rY) (tms 0 152 (b4 g kd [])) (oP g.Q B O o) kP (i4 [46]) F = VT.leaf (AX.normal,[AV.ptr 2 0,AV.ptr 3 0,AV.func (Fn.func 19) [] [AV.ptr 3 0],AV.ptr 1011 0,b' true,AV.v (Value.slice g.sa g.n g.c),i' g.n,i' g.j,z' kd,j'],152) [some g.Q,some B,some O,some (AO.cells [z' o.kd,z' o.N,z' o.k.sq,z' o.k.gh,z' o.k.bo,z' o.k.si,s' o.k.ex,s' o.k.ke,z' o.k.fl,s' o.k.ct,s' o.k.ce,AV.v (Value.slice o.k.ha (List.length o.k.f) o.k.hc),z' o.k.dm,z' o.k.pr,s' o.k.s1,s' o.k.s2,s' o.k.s3,s' o.k.s4,z' o.k.ts,s' o.k.s5,s' o.k.s6,s' o.k.s7,z' o.k.xp,z' o.k.pi,AV.v (Value.slice o.k.ta o.k.tr.length o.k.tc),b' o.k.du,b' o.k.re,z' o.cf.t1,z' o.cf.t2,z' o.cf.ml,z' o.cf.mp,s' o.cf.a1,s' o.cf.a2,s' o.cf.a3,b' o.cf.b1,b' o.cf.b2,b' o.cf.b3,AV.v (Value.slice o.ca o.cl o.cc)] 106),none,none,none,none,none,none,none,none,none] 1100 ((k87' kd).a ((k88' kd).a ((wb' (kd == Int.ofNat 2) j').a k1'))) := χ
theorem fG' (g : Lf) (B O : AO) (o : Op) (kd : Int) (F : HP) : B0' [] (AJ' [(fLaw, 14, 0, hv tF), (fLaw, 15, 0, hv tF), (fLaw, 16, 0, hv tF)]) [] default fLaw (fst rY) (tms 0 152 (b4 g kd [])) (oP g.Q B O o) kP (i4 [46]) F = VT.leaf (AX.normal,[AV.ptr 2 0,AV.ptr 3 0,AV.func (Fn.func 19) [] [AV.ptr 3 0],AV.ptr 1011 0,b' true,AV.v (Value.slice g.sa g.n g.c),i' g.n,i' g.j,z' kd,g'],152) [some g.Q,some B,some O,some (AO.cells [z' o.kd,z' o.N,z' o.k.sq,z' o.k.gh,z' o.k.bo,z' o.k.si,s' o.k.ex,s' o.k.ke,z' o.k.fl,s' o.k.ct,s' o.k.ce,AV.v (Value.slice o.k.ha (List.length o.k.f) o.k.hc),z' o.k.dm,z' o.k.pr,s' o.k.s1,s' o.k.s2,s' o.k.s3,s' o.k.s4,z' o.k.ts,s' o.k.s5,s' o.k.s6,s' o.k.s7,z' o.k.xp,z' o.k.pi,AV.v (Value.slice o.k.ta o.k.tr.length o.k.tc),b' o.k.du,b' o.k.re,z' o.cf.t1,z' o.cf.t2,z' o.cf.ml,z' o.cf.mp,s' o.cf.a1,s' o.cf.a2,s' o.cf.a3,b' o.cf.b1,b' o.cf.b2,b' o.cf.b3,AV.v (Value.slice o.ca o.cl o.cc)] 106),none,none,none,none,none,none,none,none,none] 1100 ((k87' kd).a ((k88' kd).a ((wb' (kd == Int.ofNat 2) g').a k1'))) := χ
def cQ (A : List AV) (v : AV) (Q Q' : AO) : List AV -> Option (AP AV) := mkC gP1 (fun _ => True) nmP (fun _ => .ptr 0 0 :: A) (fun _ => [(0, Q)]) (fun _ => .leaf .ret [v] [(0, Q')])
def cQr (A : List AV) (n : Nat) (R : List Kc) (Q Q' : AO) : List AV -> Option (AP AV) := mkC gP1 (fun _ => True) nmP (fun _ => .ptr 0 0 :: A) (fun _ => [(0, Q)]) (fun _ => .leaf .ret [slR 1000 n] [(0, Q'), (1000, .cells (rowU R) tKc)])
def gG2 : List AV -> AP (Nat × Nat) := fun args => match args with
 | [.slice i _ _ _ _, .ptr b _] => .ret (i, b)
 | [_, .ptr b _] => .ret (1005, b)
 | _ => .fail "gone"
def nmG2 (q : Nat × Nat) : Nat -> Nat := fun k => match Nat.beq k 0 with
 | true => q.2
 | false => match Nat.beq k 1005 with
  | true => q.1
  | false => k
def cGo (n : Nat) (R : List Kc) (x x' : AV) (O O' : AO) : List AV -> Option (AP AV) := mkC gG2 (fun _ => True) nmG2 (fun _ => [slR 1005 n, .ptr 0 0]) (fun _ => [(0, bxI x), (1004, O), (1005, .cells (rowU R) tKc)]) (fun _ => .leaf .ret [bv true] [(0, bxI x'), (1004, O')])
def cGo0 (x : AV) (O : AO) : List AV -> Option (AP AV) := mkC gG2 (fun _ => True) nmG2 (fun _ => [nilS, .ptr 0 0]) (fun _ => [(0, bxI x), (1004, O)]) (fun _ => .leaf .ret [bv true] [(0, bxI x), (1004, O)])
def i7 : List Nat := [5, 6, 7, 10, 31, 32, 33]
abbrev k89' (q0 : Op) (q1 : Lf) : Cnd := ((p' True).a ((vw' [AV.ptr 2 0,AV.agg [z' q0.k.sq,z' q0.k.gh,z' q0.k.bo,z' q0.k.si,s' q0.k.ex,s' q0.k.ke,z' q0.k.fl,s' q0.k.ct,s' q0.k.ce,AV.v (Value.slice q0.k.ha (List.length q0.k.f) q0.k.hc),z' q0.k.dm,z' q0.k.pr,s' q0.k.s1,s' q0.k.s2,s' q0.k.s3,s' q0.k.s4,z' q0.k.ts,s' q0.k.s5,s' q0.k.s6,s' q0.k.s7,z' q0.k.xp,z' q0.k.pi,AV.v (Value.slice q0.k.ta q0.k.tr.length q0.k.tc),b' q0.k.du,b' q0.k.re]]).a (f' (OW q1.Q (AO.ren (nmP 2) q1.Q)))))
abbrev k90' (q0 : Op) : Cnd := (ee' [z' q0.k.sq,z' q0.k.gh,z' q0.k.bo,z' q0.k.si,s' q0.k.ex,s' q0.k.ke,z' q0.k.fl,s' q0.k.ct,s' q0.k.ce,AV.v (Value.slice q0.k.ha (List.length q0.k.f) q0.k.hc),z' q0.k.dm,z' q0.k.pr,s' q0.k.s1,s' q0.k.s2,s' q0.k.s3,s' q0.k.s4,z' q0.k.ts,s' q0.k.s5,s' q0.k.s6,s' q0.k.s7,z' q0.k.xp,z' q0.k.pi,AV.v (Value.slice q0.k.ta q0.k.tr.length q0.k.tc),b' q0.k.du,b' q0.k.re])
theorem oE0_eq (W : World) (g : Lf) (o : Op) (kd n : Int) (Q' : AO) (F : HP) : B0' [(CB', cQ [aggK o.k] (iv n) g.Q Q')] AF' [] W fLaw (snd rY) (tms 0 152 (b4 g kd [(46, tT)])) (oP g.Q (bxI .mt) dumZ o) kP i7 F = VT.leaf (AX.normal,[AV.ptr 2 0,AV.ptr 3 0,AV.func (Fn.func 19) [] [AV.ptr 3 0],b' true,AV.v (Value.slice g.sa g.n g.c),i' g.n,i' g.j],152) [some (AO.ren (sgN (nmP 2) [] 0) Q'),some (AO.cells [AV.slice 1101 0 1 1 (Cp.lo 1)] 44),some (AO.any (frz fun x => True)),some (AO.cells [z' o.kd,z' o.N,z' o.k.sq,z' o.k.gh,z' o.k.bo,z' o.k.si,s' o.k.ex,s' o.k.ke,z' o.k.fl,s' o.k.ct,s' o.k.ce,AV.v (Value.slice o.k.ha (List.length o.k.f) o.k.hc),z' o.k.dm,z' o.k.pr,s' o.k.s1,s' o.k.s2,s' o.k.s3,s' o.k.s4,z' o.k.ts,s' o.k.s5,s' o.k.s6,s' o.k.s7,z' o.k.xp,z' o.k.pi,AV.v (Value.slice o.k.ta o.k.tr.length o.k.tc),b' o.k.du,b' o.k.re,z' o.cf.t1,z' o.cf.t2,z' o.cf.ml,z' o.cf.mp,s' o.cf.a1,s' o.cf.a2,s' o.cf.a3,b' o.cf.b1,b' o.cf.b2,b' o.cf.b3,AV.v (Value.slice o.ca o.cl o.cc)] 106),some (AO.cells [z' n] 6),some (AO.cells [z' n] 6),none,none,none,none,none,none,none] 1102 (k6'.a ((k90' o).a ((k89' o g).a (k28'.a (k6'.a k1'))))) := χ
theorem oE1_eq (W : World) (g : Lf) (o : Op) (kd n : Int) (I : List Int) (m : Nat) (Q' : AO) (F : HP) : B0' [(CB', cQ [aggK o.k] (iv n) g.Q Q')] AF' [] W fLaw (snd rY) (tms 0 152 (b4 g kd [(46, tT)])) (oP g.Q (bxI (slI 1004 m)) (rZ I) o) kP i7 F = VT.leaf (AX.normal,[AV.ptr 2 0,AV.ptr 3 0,AV.func (Fn.func 19) [] [AV.ptr 3 0],b' true,AV.v (Value.slice g.sa g.n g.c),i' g.n,i' g.j],152) [some (AO.ren (sgN (nmP 2) [] 0) Q'),some (AO.cells [AV.slice 1101 0 (m + 1) 1 (Cp.lo (m + 1))] 44),none,some (AO.cells [z' o.kd,z' o.N,z' o.k.sq,z' o.k.gh,z' o.k.bo,z' o.k.si,s' o.k.ex,s' o.k.ke,z' o.k.fl,s' o.k.ct,s' o.k.ce,AV.v (Value.slice o.k.ha (List.length o.k.f) o.k.hc),z' o.k.dm,z' o.k.pr,s' o.k.s1,s' o.k.s2,s' o.k.s3,s' o.k.s4,z' o.k.ts,s' o.k.s5,s' o.k.s6,s' o.k.s7,z' o.k.xp,z' o.k.pi,AV.v (Value.slice o.k.ta o.k.tr.length o.k.tc),b' o.k.du,b' o.k.re,z' o.cf.t1,z' o.cf.t2,z' o.cf.ml,z' o.cf.mp,s' o.cf.a1,s' o.cf.a2,s' o.cf.a3,b' o.cf.b1,b' o.cf.b2,b' o.cf.b3,AV.v (Value.slice o.ca o.cl o.cc)] 106),some (AO.cells [z' n] 6),some (AO.cells (List.take (m * 1) (List.drop 0 (vmap (List.map encZ I))) ++ [z' n]) 6),none,none,none,none,none,none,none] 1102 (k6'.a ((k90' o).a ((k89' o g).a ((k73' m I).a (k6'.a k1'))))) := χ
abbrev k91' (q0 : Lf) : Cnd := ((p' True).a ((vw' [AV.ptr 2 0]).a (f' (OW q0.Q (AO.ren (nmP 2) q0.Q)))))
abbrev k92' (q0 : Int) : Cnd := (wb' (q0 == Int.ofNat 3) j')
theorem fF' (g : Lf) (B O : AO) (o : Op) (kd : Int) (Q' : AO) (F : HP) : B0' [(EM', cQ [] (.tuple [aggU kz, bv false]) g.Q Q')] (AJ' [(fLaw, 18, 0, hv tT), (fLaw, 20, 0, hv tF)]) [] default fLaw (snd rY) (tms 0 152 (b4 g kd [(46, tF)])) (oP g.Q B O o) kP i7 F = VT.leaf (AX.normal,[AV.ptr 2 0,AV.ptr 3 0,AV.func (Fn.func 19) [] [AV.ptr 3 0],b' true,AV.v (Value.slice g.sa g.n g.c),i' g.n,i' g.j],152) [some (AO.ren (sgN (nmP 2) [] 0) Q'),some B,some O,some (AO.cells [z' o.kd,z' o.N,z' o.k.sq,z' o.k.gh,z' o.k.bo,z' o.k.si,s' o.k.ex,s' o.k.ke,z' o.k.fl,s' o.k.ct,s' o.k.ce,AV.v (Value.slice o.k.ha (List.length o.k.f) o.k.hc),z' o.k.dm,z' o.k.pr,s' o.k.s1,s' o.k.s2,s' o.k.s3,s' o.k.s4,z' o.k.ts,s' o.k.s5,s' o.k.s6,s' o.k.s7,z' o.k.xp,z' o.k.pi,AV.v (Value.slice o.k.ta o.k.tr.length o.k.tc),b' o.k.du,b' o.k.re,z' o.cf.t1,z' o.cf.t2,z' o.cf.ml,z' o.cf.mp,s' o.cf.a1,s' o.cf.a2,s' o.cf.a3,b' o.cf.b1,b' o.cf.b2,b' o.cf.b3,AV.v (Value.slice o.ca o.cl o.cc)] 106),some (AO.cells [i' 0,i' 0,i' 0,i' 0,s' eB,s' eB,i' 0,s' eB,s' eB,AV.un,i' 0,i' 0,s' eB,s' eB,s' eB,s' eB,i' 0,s' eB,s' eB,s' eB,i' 0,i' 0,AV.un,b' false,b' false] 82),none,none,none,none,none,none,none,none] 1101 ((k92' kd).a ((k91' g).a (k6'.a (k17'.a k1')))) := χ
abbrev k93' (q0 : Nat) (q1 : AV) (q2 : AO) (q3 : Kc) : Cnd := ((p' True).a ((p' (VW [AV.slice q0 0 1 25 (Cp.ex 1),AV.ptr 3 0] [AV.slice q0 0 1 25 (Cp.lo 1),AV.ptr 3 0])).a ((p' (OW (AO.cells [q1] 44) (AO.cells [(AV.ren (nmG2 (q0,3)) q1)] 44))).a ((p' (OW q2 (AO.ren (nmG2 (q0,3)) q2))).a (f' (OW (AO.cells [z' q3.sq,z' q3.gh,z' q3.bo,z' q3.si,s' q3.ex,s' q3.ke,z' q3.fl,s' q3.ct,s' q3.ce,AV.un,z' q3.dm,z' q3.pr,s' q3.s1,s' q3.s2,s' q3.s3,s' q3.s4,z' q3.ts,s' q3.s5,s' q3.s6,s' q3.s7,z' q3.xp,z' q3.pi,AV.un,b' q3.du,b' q3.re] 82) (AO.cells [z' q3.sq,z' q3.gh,z' q3.bo,z' q3.si,s' q3.ex,s' q3.ke,z' q3.fl,s' q3.ct,s' q3.ce,AV.un,z' q3.dm,z' q3.pr,s' q3.s1,s' q3.s2,s' q3.s3,s' q3.s4,z' q3.ts,s' q3.s5,s' q3.s6,s' q3.s7,z' q3.xp,z' q3.pi,AV.un,b' q3.du,b' q3.re] 82)))))))
abbrev k94' (q0 : Kc) : Cnd := (ee' [z' q0.sq,z' q0.gh,z' q0.bo,z' q0.si,s' q0.ex,s' q0.ke,z' q0.fl,s' q0.ct,s' q0.ce,AV.un,z' q0.dm,z' q0.pr,s' q0.s1,s' q0.s2,s' q0.s3,s' q0.s4,z' q0.ts,s' q0.s5,s' q0.s6,s' q0.s7,z' q0.xp,z' q0.pi,AV.un,b' q0.du,b' q0.re])
theorem fE' (g : Lf) (x x' : AV) (O O' : AO) (o : Op) (c : Kc) (kd : Int) (Q' : AO) (F : HP) : B0' [(EM', cQ [] (.tuple [aggU c, bv true]) g.Q Q'), (fGo, cGo 1 [c] x x' O O')] (AJ' [(fLaw, 18, 0, hv tT), (fLaw, 20, 0, hv tT)]) [] default fLaw (snd rY) (tms 0 152 (b4 g kd [(46, tF)])) (oP g.Q (bxI x) O o) kP i7 F = VT.leaf (AX.normal,[AV.ptr 2 0,AV.ptr 3 0,AV.func (Fn.func 19) [] [AV.ptr 3 0],b' true,AV.v (Value.slice g.sa g.n g.c),i' g.n,i' g.j],152) [some (AO.ren (sgN (nmP 2) [] 0) Q'),some (AO.cells [(AV.ren (sgN (nmG2 (1101,3)) [1004] 1102) x')] 44),none,some (AO.cells [z' o.kd,z' o.N,z' o.k.sq,z' o.k.gh,z' o.k.bo,z' o.k.si,s' o.k.ex,s' o.k.ke,z' o.k.fl,s' o.k.ct,s' o.k.ce,AV.v (Value.slice o.k.ha (List.length o.k.f) o.k.hc),z' o.k.dm,z' o.k.pr,s' o.k.s1,s' o.k.s2,s' o.k.s3,s' o.k.s4,z' o.k.ts,s' o.k.s5,s' o.k.s6,s' o.k.s7,z' o.k.xp,z' o.k.pi,AV.v (Value.slice o.k.ta o.k.tr.length o.k.tc),b' o.k.du,b' o.k.re,z' o.cf.t1,z' o.cf.t2,z' o.cf.ml,z' o.cf.mp,s' o.cf.a1,s' o.cf.a2,s' o.cf.a3,b' o.cf.b1,b' o.cf.b2,b' o.cf.b3,AV.v (Value.slice o.ca o.cl o.cc)] 106),some (AO.cells [z' c.sq,z' c.gh,z' c.bo,z' c.si,s' c.ex,s' c.ke,z' c.fl,s' c.ct,s' c.ce,AV.un,z' c.dm,z' c.pr,s' c.s1,s' c.s2,s' c.s3,s' c.s4,z' c.ts,s' c.s5,s' c.s6,s' c.s7,z' c.xp,z' c.pi,AV.un,b' c.du,b' c.re] 82),none,some (AO.ren (sgN (nmG2 (1101,3)) [1004] 1102) O'),none,none,none,none,none,none] 1103 ((k92' kd).a ((k91' g).a (k6'.a (k16'.a ((k94' c).a ((k93' 1101 x O c).a k1')))))) := χ
theorem fD' (g : Lf) (B O : AO) (o : Op) (kd : Int) (c : Kc) (b : Bool) (Q' : AO) (F : HP) : B0' [(fPop, cQ [] (.tuple [aggU c, bv b]) g.Q Q')] (AJ' [(fLaw, 18, 0, hv tF), (fLaw, 22, 0, hv tT)]) [] default fLaw (snd rY) (tms 0 152 (b4 g kd [(46, tF)])) (oP g.Q B O o) kP i7 F = VT.leaf (AX.normal,[AV.ptr 2 0,AV.ptr 3 0,AV.func (Fn.func 19) [] [AV.ptr 3 0],b' true,AV.v (Value.slice g.sa g.n g.c),i' g.n,i' g.j],152) [some (AO.ren (sgN (nmP 2) [] 0) Q'),some B,some O,some (AO.cells [z' o.kd,z' o.N,z' o.k.sq,z' o.k.gh,z' o.k.bo,z' o.k.si,s' o.k.ex,s' o.k.ke,z' o.k.fl,s' o.k.ct,s' o.k.ce,AV.v (Value.slice o.k.ha (List.length o.k.f) o.k.hc),z' o.k.dm,z' o.k.pr,s' o.k.s1,s' o.k.s2,s' o.k.s3,s' o.k.s4,z' o.k.ts,s' o.k.s5,s' o.k.s6,s' o.k.s7,z' o.k.xp,z' o.k.pi,AV.v (Value.slice o.k.ta o.k.tr.length o.k.tc),b' o.k.du,b' o.k.re,z' o.cf.t1,z' o.cf.t2,z' o.cf.ml,z' o.cf.mp,s' o.cf.a1,s' o.cf.a2,s' o.cf.a3,b' o.cf.b1,b' o.cf.b2,b' o.cf.b3,AV.v (Value.slice o.ca o.cl o.cc)] 106),none,none,none,none,none,none,none,none,none] 1100 ((wb' (kd == Int.ofNat 3) g').a ((wb' (kd == Int.ofNat 4) j').a ((k91' g).a k1'))) := χ
def hS (b : AV) : AY' := AJ' [(fLaw, 18, 0, hv tF), (fLaw, 22, 0, hv tF), (fLaw, 24, 0, hv tT), (fLaw, 26, 0, hv b)]
abbrev h95' (q0 : Op) (q1 : Lf) (z : Cnd) : Cnd := ((ee' (z' q0.N)).a (((p' True).a ((vw' [AV.ptr 2 0,z' q0.N]).a (f' (OW q1.Q (AO.ren (nmP 2) q1.Q))))).a z))
abbrev k96' (q0 : Int) : Cnd := (wb' (q0 == Int.ofNat 5) j')
abbrev h97' (q0 : Int) (z : Cnd) : Cnd := ((wb' (q0 == Int.ofNat 3) g').a ((wb' (q0 == Int.ofNat 4) g').a z))
theorem fB' (g : Lf) (B O : AO) (o : Op) (kd : Int) (Q' : AO) (F : HP) : B0' [(BL', cQ [iv o.N] (.tuple [aggU kz, bv false]) g.Q Q')] (hS tF) [] default fLaw (snd rY) (tms 0 152 (b4 g kd [(46, tF)])) (oP g.Q B O o) kP i7 F = VT.leaf (AX.normal,[AV.ptr 2 0,AV.ptr 3 0,AV.func (Fn.func 19) [] [AV.ptr 3 0],b' true,AV.v (Value.slice g.sa g.n g.c),i' g.n,i' g.j],152) [some (AO.ren (sgN (nmP 2) [] 0) Q'),some B,some O,some (AO.cells [z' o.kd,z' o.N,z' o.k.sq,z' o.k.gh,z' o.k.bo,z' o.k.si,s' o.k.ex,s' o.k.ke,z' o.k.fl,s' o.k.ct,s' o.k.ce,AV.v (Value.slice o.k.ha (List.length o.k.f) o.k.hc),z' o.k.dm,z' o.k.pr,s' o.k.s1,s' o.k.s2,s' o.k.s3,s' o.k.s4,z' o.k.ts,s' o.k.s5,s' o.k.s6,s' o.k.s7,z' o.k.xp,z' o.k.pi,AV.v (Value.slice o.k.ta o.k.tr.length o.k.tc),b' o.k.du,b' o.k.re,z' o.cf.t1,z' o.cf.t2,z' o.cf.ml,z' o.cf.mp,s' o.cf.a1,s' o.cf.a2,s' o.cf.a3,b' o.cf.b1,b' o.cf.b2,b' o.cf.b3,AV.v (Value.slice o.ca o.cl o.cc)] 106),some (AO.cells [i' 0,i' 0,i' 0,i' 0,s' eB,s' eB,i' 0,s' eB,s' eB,AV.un,i' 0,i' 0,s' eB,s' eB,s' eB,s' eB,i' 0,s' eB,s' eB,s' eB,i' 0,i' 0,AV.un,b' false,b' false] 82),none,none,none,none,none,none,none,none] 1101 (h97' kd ((k96' kd).a (h95' o g (k6'.a (k17'.a k1'))))) := χ
theorem fA' (g : Lf) (x x' : AV) (O O' : AO) (o : Op) (c : Kc) (kd : Int) (Q' : AO) (F : HP) : B0' [(BL', cQ [iv o.N] (.tuple [aggU c, bv true]) g.Q Q'), (fGo, cGo 1 [c] x x' O O')] (hS tT) [] default fLaw (snd rY) (tms 0 152 (b4 g kd [(46, tF)])) (oP g.Q (bxI x) O o) kP i7 F = VT.leaf (AX.normal,[AV.ptr 2 0,AV.ptr 3 0,AV.func (Fn.func 19) [] [AV.ptr 3 0],b' true,AV.v (Value.slice g.sa g.n g.c),i' g.n,i' g.j],152) [some (AO.ren (sgN (nmP 2) [] 0) Q'),some (AO.cells [(AV.ren (sgN (nmG2 (1101,3)) [1004] 1102) x')] 44),none,some (AO.cells [z' o.kd,z' o.N,z' o.k.sq,z' o.k.gh,z' o.k.bo,z' o.k.si,s' o.k.ex,s' o.k.ke,z' o.k.fl,s' o.k.ct,s' o.k.ce,AV.v (Value.slice o.k.ha (List.length o.k.f) o.k.hc),z' o.k.dm,z' o.k.pr,s' o.k.s1,s' o.k.s2,s' o.k.s3,s' o.k.s4,z' o.k.ts,s' o.k.s5,s' o.k.s6,s' o.k.s7,z' o.k.xp,z' o.k.pi,AV.v (Value.slice o.k.ta o.k.tr.length o.k.tc),b' o.k.du,b' o.k.re,z' o.cf.t1,z' o.cf.t2,z' o.cf.ml,z' o.cf.mp,s' o.cf.a1,s' o.cf.a2,s' o.cf.a3,b' o.cf.b1,b' o.cf.b2,b' o.cf.b3,AV.v (Value.slice o.ca o.cl o.cc)] 106),some (AO.cells [z' c.sq,z' c.gh,z' c.bo,z' c.si,s' c.ex,s' c.ke,z' c.fl,s' c.ct,s' c.ce,AV.un,z' c.dm,z' c.pr,s' c.s1,s' c.s2,s' c.s3,s' c.s4,z' c.ts,s' c.s5,s' c.s6,s' c.s7,z' c.xp,z' c.pi,AV.un,b' c.du,b' c.re] 82),none,some (AO.ren (sgN (nmG2 (1101,3)) [1004] 1102) O'),none,none,none,none,none,none] 1103 (h97' kd ((k96' kd).a (h95' o g (k6'.a (k16'.a ((k94' c).a ((k93' 1101 x O c).a k1'))))))) := χ
abbrev k98' (q0 : Int) : Cnd := (wb' (q0 == Int.ofNat 5) g')
theorem fC' (g : Lf) (B O : AO) (o : Op) (kd : Int) (b : Bool) (Q' : AO) (F : HP) : B0' [(EI', cQ [iv o.N] (bv b) g.Q Q')] (AJ' [(fLaw, 18, 0, hv tF), (fLaw, 22, 0, hv tF), (fLaw, 24, 0, hv tF), (fLaw, 28, 0, hv tT)]) [] default fLaw (snd rY) (tms 0 152 (b4 g kd [(46, tF)])) (oP g.Q B O o) kP i7 F = VT.leaf (AX.normal,[AV.ptr 2 0,AV.ptr 3 0,AV.func (Fn.func 19) [] [AV.ptr 3 0],b' true,AV.v (Value.slice g.sa g.n g.c),i' g.n,i' g.j],152) [some (AO.ren (sgN (nmP 2) [] 0) Q'),some B,some O,some (AO.cells [z' o.kd,z' o.N,z' o.k.sq,z' o.k.gh,z' o.k.bo,z' o.k.si,s' o.k.ex,s' o.k.ke,z' o.k.fl,s' o.k.ct,s' o.k.ce,AV.v (Value.slice o.k.ha (List.length o.k.f) o.k.hc),z' o.k.dm,z' o.k.pr,s' o.k.s1,s' o.k.s2,s' o.k.s3,s' o.k.s4,z' o.k.ts,s' o.k.s5,s' o.k.s6,s' o.k.s7,z' o.k.xp,z' o.k.pi,AV.v (Value.slice o.k.ta o.k.tr.length o.k.tc),b' o.k.du,b' o.k.re,z' o.cf.t1,z' o.cf.t2,z' o.cf.ml,z' o.cf.mp,s' o.cf.a1,s' o.cf.a2,s' o.cf.a3,b' o.cf.b1,b' o.cf.b2,b' o.cf.b3,AV.v (Value.slice o.ca o.cl o.cc)] 106),none,none,none,none,none,none,none,none,none] 1100 (h97' kd ((k98' kd).a ((wb' (kd == Int.ofNat 6) j').a (h95' o g k1')))) := χ
def hX : AY' := AJ' [(fLaw, 18, 0, hv tF), (fLaw, 22, 0, hv tF), (fLaw, 24, 0, hv tF), (fLaw, 28, 0, hv tF)]
abbrev k99' (q0 : Int) : Cnd := (wb' (q0 == Int.ofNat 6) g')
theorem f9' (g : Lf) (x : AV) (O : AO) (o : Op) (kd : Int) (Q' : AO) (F : HP) : B0' [(G2', cQ [iv o.N] nilS g.Q Q'), (fGo, cGo0 x O)] hX [] default fLaw (snd rY) (tms 0 152 (b4 g kd [(46, tF)])) (oP g.Q (bxI x) O o) kP i7 F = VT.leaf (AX.normal,[AV.ptr 2 0,AV.ptr 3 0,AV.func (Fn.func 19) [] [AV.ptr 3 0],b' true,AV.v (Value.slice g.sa g.n g.c),i' g.n,i' g.j],152) [some (AO.ren (sgN (nmP 2) [] 0) Q'),some (AO.cells [(AV.ren (sgN (nmG2 (1005,3)) [1004] 1100) x)] 44),none,some (AO.cells [z' o.kd,z' o.N,z' o.k.sq,z' o.k.gh,z' o.k.bo,z' o.k.si,s' o.k.ex,s' o.k.ke,z' o.k.fl,s' o.k.ct,s' o.k.ce,AV.v (Value.slice o.k.ha (List.length o.k.f) o.k.hc),z' o.k.dm,z' o.k.pr,s' o.k.s1,s' o.k.s2,s' o.k.s3,s' o.k.s4,z' o.k.ts,s' o.k.s5,s' o.k.s6,s' o.k.s7,z' o.k.xp,z' o.k.pi,AV.v (Value.slice o.k.ta o.k.tr.length o.k.tc),b' o.k.du,b' o.k.re,z' o.cf.t1,z' o.cf.t2,z' o.cf.ml,z' o.cf.mp,s' o.cf.a1,s' o.cf.a2,s' o.cf.a3,b' o.cf.b1,b' o.cf.b2,b' o.cf.b3,AV.v (Value.slice o.ca o.cl o.cc)] 106),some (AO.ren (sgN (nmG2 (1005,3)) [1004] 1100) O),none,none,none,none,none,none,none,none] 1101 (h97' kd ((k98' kd).a ((k99' kd).a (h95' o g (((Cnd.p True).a ((vw' [e',AV.ptr 3 0]).a ((p' (OW (AO.cells [x] 44) (AO.cells [(AV.ren (nmG2 (1005,3)) x)] 44))).a (f' (OW O (AO.ren (nmG2 (1005,3)) O)))))).a k1'))))) := χ
theorem f8' (g : Lf) (x x' : AV) (O O' : AO) (o : Op) (R : List Kc) (n : Nat) (kd : Int) (Q' : AO) (F : HP) : B0' [(G2', cQr [iv o.N] n R g.Q Q'), (fGo, cGo n R x x' O O')] hX [] default fLaw (snd rY) (tms 0 152 (b4 g kd [(46, tF)])) (oP g.Q (bxI x) O o) kP i7 F = VT.leaf (AX.normal,[AV.ptr 2 0,AV.ptr 3 0,AV.func (Fn.func 19) [] [AV.ptr 3 0],b' true,AV.v (Value.slice g.sa g.n g.c),i' g.n,i' g.j],152) [some (AO.ren (sgN (nmP 2) [1000] 1100) Q'),some (AO.cells [(AV.ren (sgN (nmG2 (1100,3)) [1004] 1101) x')] 44),none,some (AO.cells [z' o.kd,z' o.N,z' o.k.sq,z' o.k.gh,z' o.k.bo,z' o.k.si,s' o.k.ex,s' o.k.ke,z' o.k.fl,s' o.k.ct,s' o.k.ce,AV.v (Value.slice o.k.ha (List.length o.k.f) o.k.hc),z' o.k.dm,z' o.k.pr,s' o.k.s1,s' o.k.s2,s' o.k.s3,s' o.k.s4,z' o.k.ts,s' o.k.s5,s' o.k.s6,s' o.k.s7,z' o.k.xp,z' o.k.pi,AV.v (Value.slice o.k.ta o.k.tr.length o.k.tc),b' o.k.du,b' o.k.re,z' o.cf.t1,z' o.cf.t2,z' o.cf.ml,z' o.cf.mp,s' o.cf.a1,s' o.cf.a2,s' o.cf.a3,b' o.cf.b1,b' o.cf.b2,b' o.cf.b3,AV.v (Value.slice o.ca o.cl o.cc)] 106),none,some (AO.ren (sgN (nmG2 (1100,3)) [1004] 1101) O'),none,none,none,none,none,none,none] 1102 (h97' kd ((k98' kd).a ((k99' kd).a (h95' o g (((Cnd.p True).a ((vw' [AV.slice 1100 0 n 25 (Cp.lo n),AV.ptr 3 0]).a ((p' (OW (AO.cells [x] 44) (AO.cells [(AV.ren (nmG2 (1100,3)) x)] 44))).a ((p' (OW O (AO.ren (nmG2 (1100,3)) O))).a (f' (OW (AO.cells (AV.rens (sgN (nmP 2) [1000] 1100) (rowU R)) 82) (AO.cells (AV.rens (nmG2 (1100,3)) (rowU R)) 82))))))).a k1'))))) := χ
def gLr : List AV -> AP Nat := fun tmps => match getL tmps 98 with
 | .slice i _ _ _ _ => .ret i
 | _ => .fail "copies"
def nmR (i : Nat) : Nat -> Nat := fun k => match Nat.beq k 5 with
 | true => i
 | false => match Nat.beq k 4 with
  | true => 1004
  | false => k
def lLr (g : Lf) (I : List Int) (R : List Kc) (n : Nat) (M : List Int) : List AV -> AP (AX × List AV) := mkL gLr (fun _ => True) nmR (fun _ => tms 0 152 ([(5, .ptr 2 0), (6, .ptr 3 0), (7, clG), (10, bv true), (15, .mt), (31, slV g.sa g.n g.c), (32, iv (Int.ofNat g.n)), (33, iv (Int.ofNat g.j)), (98, slR 5 n), (99, iv (Int.ofNat n)), (100, iv (Int.ofNat 0))])) (fun _ => [(2, g.Q), (3, bxI (slI 4 I.length)), (4, rZ I), (5, .cells (rowU R) tKc)]) (fun _ => .leaf (.exit 3) (tms 0 152 [(5, .ptr 2 0), (6, .ptr 3 0), (7, clG), (10, bv true), (15, slI 1006 M.length), (31, slV g.sa g.n g.c), (32, iv (Int.ofNat g.n)), (33, iv (Int.ofNat g.j))]) [(2, g.Q), (3, bxI (slI 4 I.length)), (4, rZ I), (1006, rZ M)])
def bR (g : Lf) : List (Nat × AV) := [(5, .ptr 2 0), (6, .ptr 3 0), (7, clG), (10, bv true), (31, slV g.sa g.n g.c), (32, iv (Int.ofNat g.n)), (33, iv (Int.ofNat g.j))]
def hR48 : AY' := AJ' [(fLaw, 48, 1, hv tF), (fLaw, 48, 7, hv tF), (fLaw, 48, 8, hv tF)]
def hR48z : AY' := AJ' [(fLaw, 32, 0, hv tF), (fLaw, 48, 1, hv tF), (fLaw, 48, 7, hv tF), (fLaw, 48, 8, hv tF)]
abbrev k100' : Cnd := (f' (Wk g' g'))
abbrev k101' (q0 : Lf) : Cnd := ((p' True).a ((vw' [AV.ptr 2 0]).a (f' (OW (AO.ren (sgN (nmP 2) [] 0) q0.Q) (AO.ren (nmP 2) q0.Q)))))
theorem eE' (g : Lf) (F : HP) : B0' [(B8', cQ [] nilS g.Q g.Q), (fOut, cQ [] nilS g.Q g.Q)] hR48z [] default fLaw rR (tms 0 152 (bR g)) (oL g.Q (bxI .mt) dumZ) kP iL F = VT.leaf (AX.normal,[AV.ptr 2 0,AV.ptr 3 0,AV.func (Fn.func 19) [] [AV.ptr 3 0],AV.v (Value.slice g.sa g.n g.c),i' g.n,i' g.j],152) [some (AO.ren (sgN (nmP 2) [] 0) g.Q),some (AO.cells [AV.mt] 44),some (AO.any (frz fun x => True)),none,some (AO.cells (rep [i' 0] 0) 6),none,none,none,none,none,none,none,none] 1101 ((k91' g).a ((k101' g).a ((fe' 0).a (k17'.a (h62' (k17'.a (k100'.a k1'))))))) := χ
abbrev k102' (q0 q1 : List Int) : Cnd := (wb' ((↑q0.length : Int) != ↑q1.length) g')
abbrev k103' (q0 : List Int) (q1 : Nat) : Cnd := (p' (OW (AO.cells (vmap (List.map encZ q0)) 6) (AO.cells (AV.rens (nmR q1) (vmap (List.map encZ q0))) 6)))
abbrev k104' (q0 : Nat) (q1 : List Int) : Cnd := (ow' (AO.cells [AV.slice q0 0 q1.length 1 (Cp.lo q1.length)] 44))
abbrev k105' (q0 q1 : Nat) (q2 : Lf) : Cnd := ((p' True).a ((vw' [AV.ptr 2 0]).a (f' (OW (AO.ren (sgN (nmP 2) [q0] q1) q2.Q) (AO.ren (nmP 2) q2.Q)))))
theorem eC' (g : Lf) (I M : List Int) (R : List Kc) (n : Nat) (F : HP) : B0' [(B8', cQr [] n R g.Q g.Q), (fOut, cQ [] nilS g.Q g.Q)] hR48 [(fLaw, 32, AH' fLaw 32, lLr g I R n M)] default fLaw rR (tms 0 152 (bR g)) (oL g.Q (bxI (slI 1004 I.length)) (rZ I)) kP iL F = VT.leaf (AX.normal,[AV.ptr 2 0,AV.ptr 3 0,AV.func (Fn.func 19) [] [AV.ptr 3 0],AV.v (Value.slice g.sa g.n g.c),i' g.n,i' g.j],152) [some (AO.ren (sgN (nmR 1101) [1006] 1102) g.Q),some (AO.cells [AV.slice 1004 0 I.length 1 (Cp.lo I.length)] 44),some (AO.cells (AV.rens (sgN (nmR 1101) [1006] 1102) (vmap (List.map encZ I))) 6),none,some (AO.cells (rep [i' 0] 0) 6),none,some (AO.cells (AV.rens (sgN (nmR 1101) [1006] 1102) (vmap (List.map encZ M))) 6),none,none,none,none,none,none] 1103 ((k91' g).a ((k105' 1000 1101 g).a ((fe' 0).a ((p' ((fLaw,32,AH' fLaw 32,lLr g I R n M).snd.snd.fst = (fLaw,32,AH' fLaw 32,lLr g I R n M).snd.snd.fst)).a (k11'.a ((p' (VW (ra4 (a'::AV.ptr 2 0::AV.ptr 3 0::AV.func (Fn.func 19) [] [AV.ptr 3 0]::a'::a'::b' true::ra4 (AV.slice 1100 0 0 1 (Cp.ex 0)::ra8 (ra4 (a'::a'::a'::AV.v (Value.slice g.sa g.n g.c)::i' g.n::i' g.j::ra16 (ra16 (ra16 (ra8 (a'::a'::a'::AV.slice 1100 0 0 1 (Cp.ex 0)::AV.ptr 2 0::AV.slice 1101 0 n 25 (Cp.lo n)::AV.ptr 2 0::e'::AV.slice 1101 0 n 25 (Cp.lo n)::z' ↑n::i' 0::ra16 (ra16 (ra16 (a'::a'::a'::[])))))))))))) (ra4 (a'::AV.ptr 2 0::AV.ptr 3 0::AV.func (Fn.func 19) [] [AV.ptr 3 0]::a'::a'::b' true::ra4 (AV.mt::ra8 (ra4 (a'::a'::a'::AV.v (Value.slice g.sa g.n g.c)::i' g.n::i' g.j::ra16 (ra16 (ra16 (ra16 (AV.slice 1101 0 n 25 (Cp.lo n)::i' n::i' 0::ra16 (ra16 (ra16 (a'::a'::a'::[])))))))))))))).a ((p' (OW (AO.ren (sgN (nmP 2) [] 0) g.Q) (AO.ren (nmR 1101) g.Q))).a ((k104' 1004 I).a ((k103' I 1101).a ((p' (OW (AO.cells (AV.rens (sgN (nmP 2) [1000] 1101) (rowU R)) 82) (AO.cells (AV.rens (nmR 1101) (rowU R)) 82))).a (h62' ((k102' M I).a (k100'.a k1'))))))))))))) := χ
theorem eD' (g : Lf) (I M : List Int) (R : List Kc) (n : Nat) (F : HP) : B0' [(B8', cQ [] nilS g.Q g.Q), (fOut, cQr [] n R g.Q g.Q)] hR48 [(fLaw, 32, AH' fLaw 32, lLr g I R n M)] default fLaw rR (tms 0 152 (bR g)) (oL g.Q (bxI (slI 1004 I.length)) (rZ I)) kP iL F = VT.leaf (AX.normal,[AV.ptr 2 0,AV.ptr 3 0,AV.func (Fn.func 19) [] [AV.ptr 3 0],AV.v (Value.slice g.sa g.n g.c),i' g.n,i' g.j],152) [some (AO.ren (sgN (nmR 1102) [1006] 1103) g.Q),some (AO.cells [AV.slice 1004 0 I.length 1 (Cp.lo I.length)] 44),some (AO.cells (AV.rens (sgN (nmR 1102) [1006] 1103) (vmap (List.map encZ I))) 6),none,some (AO.cells (rep [i' 0] 0) 6),some (AO.cells (AV.rens (sgN (nmP 2) [1000] 1101) (rowU R)) 82),none,some (AO.cells (AV.rens (sgN (nmR 1102) [1006] 1103) (vmap (List.map encZ M))) 6),none,none,none,none,none] 1104 ((k91' g).a ((k101' g).a (((p' (n.ble n = true)).a ((p' ((List.take (n * 25) (List.drop 0 (AV.rens (sgN (nmP 2) [1000] 1101) (rowU R)))).length.beq (n * 25) = true)).a ((p' ((List.take (n * 25) (List.drop 0 (AV.rens (sgN (nmP 2) [1000] 1101) (rowU R)))).all AV.one = true)).a ((p' (Nat.blt 0 n = true)).a ((p' ((n * 320).ble 140737488355328 = true)).a (f' (n.ble 9223372036854775807 = true))))))).a ((p' ((fLaw,32,AH' fLaw 32,lLr g I R n M).snd.snd.fst = (fLaw,32,AH' fLaw 32,lLr g I R n M).snd.snd.fst)).a (k11'.a ((p' (VW (ra4 (a'::AV.ptr 2 0::AV.ptr 3 0::AV.func (Fn.func 19) [] [AV.ptr 3 0]::a'::a'::b' true::ra4 (AV.slice 1100 0 0 1 (Cp.ex 0)::ra8 (ra4 (a'::a'::a'::AV.v (Value.slice g.sa g.n g.c)::i' g.n::i' g.j::ra16 (ra16 (ra16 (ra8 (a'::a'::a'::AV.slice 1100 0 0 1 (Cp.ex 0)::AV.ptr 2 0::e'::AV.ptr 2 0::AV.slice 1101 0 n 25 (Cp.lo n)::AV.slice 1102 0 n 25 (Cp.lo n)::z' ↑n::i' 0::ra16 (ra16 (ra16 (a'::a'::a'::[])))))))))))) (ra4 (a'::AV.ptr 2 0::AV.ptr 3 0::AV.func (Fn.func 19) [] [AV.ptr 3 0]::a'::a'::b' true::ra4 (AV.mt::ra8 (ra4 (a'::a'::a'::AV.v (Value.slice g.sa g.n g.c)::i' g.n::i' g.j::ra16 (ra16 (ra16 (ra16 (AV.slice 1102 0 n 25 (Cp.lo n)::i' n::i' 0::ra16 (ra16 (ra16 (a'::a'::a'::[])))))))))))))).a ((p' (OW (AO.ren (sgN (nmP 2) [1000] 1101) g.Q) (AO.ren (nmR 1102) g.Q))).a ((k104' 1004 I).a ((k103' I 1102).a ((p' (OW (AO.cells (List.take (n * 25) (List.drop 0 (AV.rens (sgN (nmP 2) [1000] 1101) (rowU R)))) 82) (AO.cells (AV.rens (nmR 1102) (rowU R)) 82))).a (h62' ((k102' M I).a (k100'.a k1'))))))))))))) := χ
theorem eB' (g : Lf) (I M : List Int) (R S T : List Kc) (n k : Nat) (F : HP) : B0' [(B8', cQr [] n R g.Q g.Q), (fOut, cQr [] k S g.Q g.Q)] hR48 [(fLaw, 32, AH' fLaw 32, lLr g I T (n + k) M)] default fLaw rR (tms 0 152 (bR g)) (oL g.Q (bxI (slI 1004 I.length)) (rZ I)) kP iL F = VT.leaf (AX.normal,[AV.ptr 2 0,AV.ptr 3 0,AV.func (Fn.func 19) [] [AV.ptr 3 0],AV.v (Value.slice g.sa g.n g.c),i' g.n,i' g.j],152) [some (AO.ren (sgN (nmR 1103) [1006] 1104) g.Q),some (AO.cells [AV.slice 1004 0 I.length 1 (Cp.lo I.length)] 44),some (AO.cells (AV.rens (sgN (nmR 1103) [1006] 1104) (vmap (List.map encZ I))) 6),none,some (AO.cells (rep [i' 0] 0) 6),none,some (AO.cells (AV.rens (sgN (nmP 2) [1000] 1102) (rowU S)) 82),none,some (AO.cells (AV.rens (sgN (nmR 1103) [1006] 1104) (vmap (List.map encZ M))) 6),none,none,none,none] 1105 ((k91' g).a ((k105' 1000 1101 g).a (((p' (k.ble k = true)).a ((p' ((List.take (k * 25) (List.drop 0 (AV.rens (sgN (nmP 2) [1000] 1102) (rowU S)))).length.beq (k * 25) = true)).a ((p' ((List.take (k * 25) (List.drop 0 (AV.rens (sgN (nmP 2) [1000] 1102) (rowU S)))).all AV.one = true)).a ((p' (Nat.blt 0 k = true)).a ((p' ((0 + n * 25).ble (AV.rens (sgN (nmP 2) [1000] 1101) (rowU R)).length = true)).a ((p' (((n + k) * 320).ble 140737488355328 = true)).a ((p' ((n + k).ble 9223372036854775807 = true)).a (f' ((List.take (n * 25) (List.drop 0 (AV.rens (sgN (nmP 2) [1000] 1101) (rowU R)))).length.beq (n * 25) = true))))))))).a ((p' ((fLaw,32,AH' fLaw 32,lLr g I T (n + k) M).snd.snd.fst = (fLaw,32,AH' fLaw 32,lLr g I T (n + k) M).snd.snd.fst)).a (k11'.a ((p' (VW (ra4 (a'::AV.ptr 2 0::AV.ptr 3 0::AV.func (Fn.func 19) [] [AV.ptr 3 0]::a'::a'::b' true::ra4 (AV.slice 1100 0 0 1 (Cp.ex 0)::ra8 (ra4 (a'::a'::a'::AV.v (Value.slice g.sa g.n g.c)::i' g.n::i' g.j::ra16 (ra16 (ra16 (ra8 (a'::a'::a'::AV.slice 1100 0 0 1 (Cp.ex 0)::AV.ptr 2 0::AV.slice 1101 0 n 25 (Cp.lo n)::AV.ptr 2 0::AV.slice 1102 0 k 25 (Cp.lo k)::AV.slice 1103 0 (n + k) 25 (Cp.lo (n + k))::AV.v (Value.int IntKind.i64 ↑(n + k))::i' 0::ra16 (ra16 (ra16 (a'::a'::a'::[])))))))))))) (ra4 (a'::AV.ptr 2 0::AV.ptr 3 0::AV.func (Fn.func 19) [] [AV.ptr 3 0]::a'::a'::b' true::ra4 (AV.mt::ra8 (ra4 (a'::a'::a'::AV.v (Value.slice g.sa g.n g.c)::i' g.n::i' g.j::ra16 (ra16 (ra16 (ra16 (AV.slice 1103 0 (n + k) 25 (Cp.lo (n + k))::i' (n + k)::i' 0::ra16 (ra16 (ra16 (a'::a'::a'::[])))))))))))))).a ((p' (OW (AO.ren (sgN (nmP 2) [1000] 1102) g.Q) (AO.ren (nmR 1103) g.Q))).a ((k104' 1004 I).a ((k103' I 1103).a ((p' (OW (AO.cells (List.take (n * 25) (List.drop 0 (AV.rens (sgN (nmP 2) [1000] 1101) (rowU R))) ++ List.take (k * 25) (List.drop 0 (AV.rens (sgN (nmP 2) [1000] 1102) (rowU S)))) 82) (AO.cells (AV.rens (nmR 1103) (rowU T)) 82))).a (h62' ((k102' M I).a (k100'.a k1'))))))))))))) := χ
theorem oD9_eq (g : Lf) (B O : AO) (F : HP) : B0' [] (AJ' [(fLaw, 50, 0, hv (iv (Int.ofNat (g.j + 1))))]) [] default fLaw (snd (snd (snd rb))) (tms 0 152 (bL g)) (oL g.Q B O) kP iL F = VT.leaf (AX.normal,[AV.ptr 2 0,AV.ptr 3 0,AV.func (Fn.func 19) [] [AV.ptr 3 0],AV.v (Value.slice g.sa g.n g.c),i' g.n,i' (g.j + 1)],152) [some g.Q,some B,some O,none,none,none,none,none,none,none,none,none,none] 1100 ((f' (Wk (z' (IntKind.i64.wrap (Int.ofNat g.j + Int.ofNat 1))) (i' (g.j + 1)))).a k1') := χ
end
open Rk (CP' putL JI' remK)
structure QI (A : Qs) (ins : List Int) (np : Nat) : Prop where
 mi : MI A.m A.ck
 oi : MI A.o A.ok
 key : ∀ k c, AK' k A.m = some c -> c.sq = k
 o1 : ∀ k v, AK' k A.o = some v -> v = 1
 lnd : (A.L.map (·.b)).Nodup
 ldj : ∀ x ∈ A.L, AK' x.b A.o = none
 mem : ∀ k, k ∈ ins ↔ k ∈ A.L.map (·.b) \/ AK' k A.o ≠ none
 nd : ins.Nodup
 look : ∀ k ∈ ins, ∃ c, AK' k A.m = some c
 rng : ∀ k ∈ ins, 1 <= k /\ k <= A.la
 la0 : 0 <= A.la
 la1 : A.la <= (np : Int)
 len : ins.length <= np
theorem NX' {α : Type} {m : IMap α} {k : Int} : AK' k m ≠ none ↔ k ∈ m.map (·.1) := by
 rw [ne_eq, K0', Decidable.not_not]
theorem CV' {k s : Int} {l : List Int} : s ∈ notK k l ↔ s ∈ l /\ s ≠ k := by simp [notK]
theorem QI.mono {A : Qs} {ins : List Int} {np np' : Nat} (h : QI A ins np) (hn : np <= np') : QI A ins np' :=
 { h with la1 := Int.le_trans h.la1 ω, len := Nat.le_trans h.len hn }
theorem QI.inL {A : Qs} {ins : List Int} {np : Nat} (h : QI A ins np) {x : It} (hx : x ∈ A.L) : x.b ∈ ins := (h.mem _).2 (.inl (List.mem_map_of_mem hx))
theorem QI.inO {A : Qs} {ins : List Int} {np : Nat} (h : QI A ins np) {k : Int} (hk : k ∈ A.o.map (·.1)) : k ∈ ins := (h.mem _).2 (.inr (NX'.2 hk))
theorem QI.perm {A : Qs} {ins : List Int} {np : Nat} (h : QI A ins np) : (A.L.map (·.b) ++ A.o.map (·.1)).Perm ins := by
 refine (List.perm_ext_iff_of_nodup ?_ h.nd).2 fun k => ?_
 ·refine List.nodup_append.2 ⟨h.lnd, h.oi.keys, fun a ha b hb e => ?_⟩
  obtain ⟨x, hx, rfl⟩ := List.mem_map.1 ha; exact NX'.2 hb (e ▸ h.ldj x hx)
 ·rw [List.mem_append, h.mem, NX']
theorem QI.size {A : Qs} {ins : List Int} {np : Nat} (h : QI A ins np) : A.L.length + A.o.length = ins.length := by
 have := h.perm.length_eq; rw [List.length_append, List.length_map, List.length_map] at this; exact this
theorem QI.ready_sq {A : Qs} {ins : List Int} {np : Nat} (h : QI A ins np) : (DR' A).map (·.sq) = A.L.map (·.b) := by
 rw [DR', List.map_map]
 refine List.map_congr_left fun x hx => ?_
 obtain ⟨c, hc⟩ := h.look _ (h.inL hx); show (cAt A x.b).sq = x.b; rw [cAt, hc]; exact h.key _ _ hc
theorem QI.out_sq {A : Qs} {ins : List Int} {np : Nat} (h : QI A ins np) : (outA A).map (·.sq) = EF' A.o := by
 rw [outA, List.map_map]
 have : (EF' A.o).map ((fun c : Kc => c.sq) ∘ fun k => cAt A k) = (EF' A.o).map id := List.map_congr_left fun k hk => by
  obtain ⟨c, hc⟩ := h.look k (h.inO ((HT' A.o).mem_iff.1 hk)); show (cAt A k).sq = k; rw [cAt, hc]; exact h.key _ _ hc
 rw [this, List.map_id]
theorem QI.told {A : Qs} {ins : List Int} {np : Nat} (h : QI A ins np) : ((DR' A ++ outA A).map (·.sq)).Nodup /\ (∀ c ∈ DR' A ++ outA A, c.sq ∈ ins) /\ (DR' A ++ outA A).length = ins.length := by
 have hp : ((DR' A ++ outA A).map (·.sq)).Perm ins := by
  rw [List.map_append, h.ready_sq, h.out_sq]; exact ((List.Perm.refl _).append (HT' A.o)).trans h.perm
 refine ⟨hp.nodup_iff.2 h.nd, fun c hc => hp.mem_iff.1 (List.mem_map_of_mem hc), ?_⟩
 have := hp.length_eq
 rwa [List.length_map] at this
theorem has_no {L : List It} {k : Int} (h : k ∉ L.map (·.b)) : CP' k L = false := by
 rw [CP', List.any_eq_false]; intro x hx
 have : x.b ≠ k := fun e => h (e ▸ List.mem_map_of_mem hx)
 simpa using this
theorem VN' {L : List It} {x : It} (h : x.b ∉ L.map (·.b)) : (putL L x).Perm (x :: L) := by
 rw [putL, has_no h]; exact Rk.ins_perm x L
theorem QI.stand {A : Qs} {ins : List Int} {np : Nat} (h : QI A ins np) {c : Kc} (hk : c.sq ∉ ins) (h1 : 1 <= c.sq) (h2 : c.sq <= (np : Int) + 1) {ins' : List Int} (hm : ∀ k, k ∈ ins' ↔ k ∈ ins \/ k = c.sq) (hn : ins'.Nodup) (hl : ins'.length <= np + 1) : QI (DQ' A c) ins' (np + 1) := by
 have hL : c.sq ∉ A.L.map (·.b) := fun e => hk ((h.mem _).2 (.inl e))
 have hp := VN' (x := ⟨rkOf A.cf c.pi, c.sq, 0⟩) hL
 have hO : AK' c.sq A.o = none := by
  cases e : AK' c.sq A.o with
  | none => rfl
  | some v => exact absurd ((h.mem _).2 (.inr (by rw [e]; exact fun h => by cases h))) hk
 have hmb : ∀ k, k ∈ (putL A.L ⟨rkOf A.cf c.pi, c.sq, 0⟩).map (·.b) ↔ k = c.sq \/ k ∈ A.L.map (·.b) := fun k => by
  rw [(hp.map _).mem_iff, List.map_cons, List.mem_cons]
 refine ⟨h.mi.mset _ _, h.oi, fun k c' hc' => ?_, h.o1, ?_, fun x hx => ?_, fun k => ?_, hn, fun k hkk => ?_, fun k hkk => ?_, ?_, ?_, hl⟩
 ·have hc' : AK' k (mset A.m A.ck c.sq c) = some c' := hc'; rw [E9'] at hc'; split at hc'
  ·rename_i e; cases hc'; exact e.symm
  ·exact h.key _ _ hc'
 ·exact (hp.map _).nodup_iff.2 (by rw [List.map_cons]; exact List.nodup_cons.2 ⟨hL, h.lnd⟩)
 ·have hx : x ∈ putL A.L ⟨rkOf A.cf c.pi, c.sq, 0⟩ := hx
  rcases List.mem_cons.1 (hp.mem_iff.1 hx) with rfl | hx
  ·exact hO
  ·exact h.ldj x hx
 ·show _ ↔ k ∈ (putL A.L _).map (·.b) \/ AK' k A.o ≠ none; rw [hmb, hm, h.mem]
  constructor
  ·rintro ((h | h) | h)
   ·exact .inl (.inr h)
   ·exact .inr h
   ·exact .inl (.inl h)
  ·rintro ((h | h) | h)
   ·exact .inr h
   ·exact .inl (.inl h)
   ·exact .inl (.inr h)
 ·show ∃ c', AK' k (mset A.m A.ck c.sq c) = some c'; rw [E9']
  by_cases e : k = c.sq
  ·rw [if_pos e]; exact ⟨_, rfl⟩
  ·rw [if_neg e]; exact h.look k (((hm k).1 hkk).resolve_right e)
 ·show 1 <= k /\ k <= (if c.sq > A.la then c.sq else A.la)
  rcases (hm k).1 hkk with h3 | h3
  ·have := h.rng k h3; split <;> omega
  ·subst h3; split <;> omega
 ·show 0 <= (if c.sq > A.la then c.sq else A.la)
  have := h.la0; split <;> omega
 ·show (if c.sq > A.la then c.sq else A.la) <= ((np + 1 : Nat) : Int)
  have := h.la1; split <;> omega
theorem QI.push {A : Qs} {ins : List Int} {np : Nat} (h : QI A ins np) (c : Kc) : QI (YV' A c) (ins ++ [A.la + 1]) (np + 1) := by
 have hno : A.la + 1 ∉ ins := fun e => by have := (h.rng _ e).2; omega
 have h1 := h.la0; have h2 := h.la1; refine h.stand (c := { c with sq := A.la + 1 }) hno (by show 1 <= A.la + 1; omega) (by show A.la + 1 <= _; omega) (fun k => by simp) ?_ (by rw [List.length_append]; have := h.len; simp; omega)
 exact List.nodup_append.2 ⟨h.nd, by simp, fun a ha b hb e => by simp at hb; subst hb; exact hno (e ▸ ha)⟩
theorem JY' {k : Int} {l : List Int} (h : l.Nodup) : (notK k l).Nodup := h.sublist List.filter_sublist
theorem QI.over {A : Qs} {ins : List Int} {np : Nat} (h : QI A ins np) {x : It} {T : List It} (hL : A.L = x :: T) : QI (WK' { A with L := T } x.b) (notK x.b ins) np := by
 have hnd := h.lnd; rw [hL, List.map_cons, List.nodup_cons] at hnd; have hxin : x.b ∈ ins := h.inL (by rw [hL]; exact List.mem_cons_self); have hxo := h.ldj x (by rw [hL]; exact List.mem_cons_self)
 have hlk : ∀ k, AK' k (mdel A.m x.b) = if k = x.b then none else AK' k A.m := fun k => DM' h.mi x.b k
 refine ⟨h.mi.mdel _, h.oi, fun k c hc => ?_, h.o1, hnd.2, fun y hy => h.ldj y (by rw [hL]; exact List.mem_cons_of_mem _ hy), fun k => ?_, JY' h.nd, fun k hk => ?_, fun k hk => h.rng k (CV'.1 hk).1, h.la0, h.la1, Nat.le_trans (List.length_filter_le _ _) h.len⟩
 ·have hc : AK' k (mdel A.m x.b) = some c := hc; rw [hlk] at hc; split at hc
  ·cases hc
  ·exact h.key _ _ hc
 ·show _ ↔ k ∈ T.map (·.b) \/ AK' k A.o ≠ none; rw [CV', h.mem, hL, List.map_cons, List.mem_cons]
  constructor
  ·rintro ⟨(h1 | h1) | h1, h2⟩
   ·exact absurd h1 h2
   ·exact .inl h1
   ·exact .inr h1
  ·rintro (h1 | h1)
   ·exact ⟨.inl (.inr h1), fun e => hnd.1 (e ▸ h1)⟩
   ·exact ⟨.inr h1, fun e => h1 (by rw [e]; exact hxo)⟩
 ·obtain ⟨h1, h2⟩ := CV'.1 hk; show ∃ c, AK' k (mdel A.m x.b) = some c; rw [hlk, if_neg h2]; exact h.look k h1
theorem QI.pop {A : Qs} {ins : List Int} {np : Nat} (h : QI A ins np) {x : It} {T : List It} (hL : A.L = x :: T) : QI (popA A x T) ins np := by
 have hnd := h.lnd; rw [hL, List.map_cons, List.nodup_cons] at hnd
 have hlo : ∀ k, AK' k (mset A.o A.ok x.b 1) = if k = x.b then some 1 else AK' k A.o := fun k => E9' A.o A.ok x.b 1 k
 refine ⟨h.mi, h.oi.mset _ _, h.key, fun k v hv => ?_, hnd.2, fun y hy => ?_, fun k => ?_, h.nd, h.look, h.rng, h.la0, h.la1, h.len⟩
 ·have hv : AK' k (mset A.o A.ok x.b 1) = some v := hv; rw [hlo] at hv; split at hv
  ·cases hv; rfl
  ·exact h.o1 _ _ hv
 ·show AK' y.b (mset A.o A.ok x.b 1) = none
  have hne : y.b ≠ x.b := fun e => hnd.1 (e ▸ List.mem_map_of_mem (f := fun z : It => z.b) hy)
  rw [hlo, if_neg hne]; exact h.ldj y (by rw [hL]; exact List.mem_cons_of_mem _ hy)
 ·show _ ↔ k ∈ T.map (·.b) \/ AK' k (mset A.o A.ok x.b 1) ≠ none; rw [h.mem, hL, List.map_cons, List.mem_cons, hlo]
  by_cases e : k = x.b
  ·rw [if_pos e]
   exact ⟨fun _ => .inr (fun h => by cases h), fun _ => .inl (.inl e)⟩
  ·rw [if_neg e]
   constructor
   ·rintro ((h1 | h1) | h1)
    ·exact absurd h1 e
    ·exact .inl h1
    ·exact .inr h1
   ·rintro (h1 | h1)
    ·exact .inl (.inr h1)
    ·exact .inr h1
theorem QI.settle {A : Qs} {ins : List Int} {np : Nat} (h : QI A ins np) {n v : Int} (ho : AK' n A.o = some v) : QI (IM' A n) (notK n ins) np := by
 have hlm : ∀ k, AK' k (mdel A.m n) = if k = n then none else AK' k A.m := fun k => DM' h.mi n k
 have hlo : ∀ k, AK' k (mdel A.o n) = if k = n then none else AK' k A.o := fun k => DM' h.oi n k
 have hnL : n ∉ A.L.map (·.b) := fun e => by
  obtain ⟨x, hx, rfl⟩ := List.mem_map.1 e; have := h.ldj x hx; rw [ho] at this; cases this
 refine ⟨h.mi.mdel _, h.oi.mdel _, fun k c hc => ?_, fun k v hv => ?_, h.lnd, fun y hy => ?_, fun k => ?_, JY' h.nd, fun k hk => ?_, fun k hk => h.rng k (CV'.1 hk).1, h.la0, h.la1, Nat.le_trans (List.length_filter_le _ _) h.len⟩
 ·have hc : AK' k (mdel A.m n) = some c := hc; rw [hlm] at hc; split at hc
  ·cases hc
  ·exact h.key _ _ hc
 ·have hv : AK' k (mdel A.o n) = some v := hv; rw [hlo] at hv; split at hv
  ·cases hv
  ·exact h.o1 _ _ hv
 ·show AK' y.b (mdel A.o n) = none; rw [hlo]; split
  ·rfl
  ·exact h.ldj y hy
 ·show _ ↔ k ∈ A.L.map (·.b) \/ AK' k (mdel A.o n) ≠ none; rw [CV', h.mem, hlo]
  by_cases e : k = n
  ·rw [if_pos e]; subst e
   exact ⟨fun h => absurd rfl h.2, fun h => h.elim (fun h => absurd h hnL) (fun h => absurd rfl h)⟩
  ·rw [if_neg e]
   exact ⟨fun h => h.1, fun h => ⟨h, e⟩⟩
 ·obtain ⟨h1, h2⟩ := CV'.1 hk; show ∃ c, AK' k (mdel A.m n) = some c; rw [hlm, if_neg h2]; exact h.look k h1
theorem QI.ret {A : Qs} {ins : List Int} {np : Nat} (h : QI A ins np) {c : Kc} {v : Int} (ho : AK' c.sq A.o = some v) : QI (DQ' (IM' A c.sq) { c with re := true }) ins (np + 1) := by
 have hin : c.sq ∈ ins := (h.mem _).2 (.inr (by rw [ho]; exact fun h => by cases h)); have hr := h.rng _ hin; have h3 := h.la1; refine (h.settle ho).stand (c := { c with re := true }) (fun e => (CV'.1 e).2 rfl) hr.1 (by show c.sq <= _; omega) (fun k => ?_) h.nd (Nat.le_succ_of_le h.len); rw [CV']; show k ∈ ins ↔ (k ∈ ins /\ k ≠ c.sq) \/ k = c.sq
 by_cases e : k = c.sq
 ·subst e; exact ⟨fun _ => .inr rfl, fun _ => hin⟩
 ·exact ⟨fun h => .inl ⟨h, e⟩, fun h => h.elim (fun h => h.1) fun h => absurd h e⟩
theorem PM' {k : Int} : ∀ {R : List Kc} {ins : List Int}, k ∈ BD' ins R ↔ k ∈ ins /\ k ∉ R.map (·.sq)
 | [], ins => by simp [BD']
 | c :: R, ins => by
  show k ∈ BD' (notK c.sq ins) R ↔ _; rw [PM', CV', List.map_cons, List.mem_cons, not_or]
  exact ⟨fun ⟨⟨a, b⟩, c⟩ => ⟨a, b, c⟩, fun ⟨a, b, c⟩ => ⟨⟨a, b⟩, c⟩⟩
theorem fZ' {ins : List Int} {R : List Kc} (hi : ∀ c ∈ R, c.sq ∈ ins) (hn : (R.map (·.sq)).Nodup) : JR' ins R := by
 intro j c hc
 refine PM'.2 ⟨hi c (List.mem_of_getElem? hc), fun h3 => ?_⟩
 obtain ⟨h1, hce⟩ := List.getElem?_eq_some_iff.1 hc; have h2 := hn; rw [<- List.take_append_drop j R, List.map_append, List.nodup_append] at h2
 have h4 : c.sq ∈ (R.drop j).map (·.sq) := by
  rw [List.drop_eq_getElem_cons h1, List.map_cons, hce]; exact List.mem_cons_self
 exact h2.2.2 _ h3 _ h4 rfl
theorem QI.exNi {A : Qs} {ins : List Int} {np : Nat} (h : QI A ins np) (now : Int) : ∀ j, QI (exN now A.L A j).1 (BD' ins (exN now A.L A j).2) np /\ ((exN now A.L A j).2.map (·.sq)).Nodup /\ (∀ c ∈ (exN now A.L A j).2, c.sq ∈ (A.L.take j).map (·.b)) /\ (∀ x ∈ A.L, x.b ∉ (A.L.take j).map (·.b) -> x ∈ (exN now A.L A j).1.L)
 | 0 => ⟨h, List.nodup_nil, fun c hc => (by cases hc), fun x hx _ => hx⟩
 | j + 1 => by
  obtain ⟨h1, h2, h3, h4⟩ := QI.exNi h now j
  cases hI : A.L[j]? with
  | none =>
   have hj : A.L.length <= j := List.getElem?_eq_none_iff.1 hI
   have e1 : exN now A.L A (j + 1) = exN now A.L A j := by rw [exN, hI]
   rw [e1]
   refine ⟨h1, h2, fun c hc => ?_, fun x hx hn => h4 x hx fun e => hn ?_⟩
   ·have := h3 c hc; rw [List.take_of_length_le hj] at this; rw [List.take_of_length_le (Nat.le_succ_of_le hj)]; exact this
   ·rw [List.take_of_length_le hj] at e; rw [List.take_of_length_le (Nat.le_succ_of_le hj)]; exact e
  | some it =>
   have ht := DP' hI; have hit : it ∈ A.L := List.mem_of_getElem? hI
   have hnot : it.b ∉ (A.L.take j).map (·.b) := by
    obtain ⟨hlt, hie⟩ := List.getElem?_eq_some_iff.1 hI; have hh := h.lnd; rw [<- List.take_append_drop j A.L, List.map_append, List.nodup_append] at hh; intro e; refine hh.2.2 _ e it.b ?_ rfl; rw [List.drop_eq_getElem_cons hlt, List.map_cons, hie]; exact List.mem_cons_self
   obtain ⟨c, hc⟩ := h.look _ (h.inL hit)
   have hca : cAt A it.b = c := by rw [cAt, hc]; rfl
   have hcs : c.sq = it.b := h.key _ _ hc
   have hsub : ∀ k, k ∈ (A.L.take j).map (·.b) -> k ∈ (A.L.take (j + 1)).map (·.b) := fun k hk => by rw [ht, List.map_append]; exact List.mem_append_left _ hk
   have hin1 : it.b ∈ (A.L.take (j + 1)).map (·.b) := by rw [ht, List.map_append]; exact List.mem_append_right _ (by simp)
   cases hw : want now c with
   | false =>
    have e1 : exN now A.L A (j + 1) = exN now A.L A j := by rw [exN, hI]; simp only [hca, hw]
    rw [e1]
    exact ⟨h1, h2, fun c hc => hsub _ (h3 c hc), fun x hx hn => h4 x hx fun e => hn (hsub _ e)⟩
   | true =>
    have e1 : exN now A.L A (j + 1) = ({ (exN now A.L A j).1 with m := mdel (exN now A.L A j).1.m it.b, L := remK it.b (exN now A.L A j).1.L }, (exN now A.L A j).2 ++ [c]) := by rw [exN, hI]; simp only [hca, hw]
    rw [e1]; simp only; have hitL := h4 it hit hnot; obtain ⟨t, ht1⟩ : ∃ t, (exN now A.L A j).1 = t := ⟨_, rfl⟩; obtain ⟨R, hR1⟩ : ∃ R, (exN now A.L A j).2 = R := ⟨_, rfl⟩; rw [ht1] at h1 h4 hitL ⊢; rw [hR1] at h1 h2 h3 ⊢
    have hlk : ∀ k, AK' k (mdel t.m it.b) = if k = it.b then none else AK' k t.m := fun k => DM' h1.mi it.b k
    have hrm : ∀ y, y ∈ remK it.b t.L ↔ y ∈ t.L /\ y.b ≠ it.b := fun y => by simp [remK]
    have hito := h1.ldj it hitL
    refine ⟨?_, ?_, fun d hd => ?_, fun x hx hn => ?_⟩
    ·rw [NB', hcs]
     refine ⟨h1.mi.mdel _, h1.oi, fun k d hd => ?_, h1.o1, h1.lnd.sublist (List.Sublist.map _ List.filter_sublist), fun y hy => h1.ldj y ((hrm y).1 hy).1, fun k => ?_, JY' h1.nd, fun k hk => ?_, fun k hk => h1.rng k (CV'.1 hk).1, h1.la0, h1.la1, Nat.le_trans (List.length_filter_le _ _) h1.len⟩
     ·have hd : AK' k (mdel t.m it.b) = some d := hd; rw [hlk] at hd; split at hd
      ·cases hd
      ·exact h1.key _ _ hd
     ·show _ ↔ k ∈ (remK it.b t.L).map (·.b) \/ AK' k t.o ≠ none; rw [CV', h1.mem]
      constructor
      ·rintro ⟨hk | hk, hne⟩
       ·obtain ⟨y, hy, rfl⟩ := List.mem_map.1 hk; exact .inl (List.mem_map_of_mem ((hrm y).2 ⟨hy, hne⟩))
       ·exact .inr hk
      ·rintro (hk | hk)
       ·obtain ⟨y, hy, rfl⟩ := List.mem_map.1 hk; obtain ⟨q1, q2⟩ := (hrm y).1 hy; exact ⟨.inl (List.mem_map_of_mem q1), q2⟩
       ·exact ⟨.inr hk, fun e => hk (by rw [e]; exact hito)⟩
     ·obtain ⟨q1, q2⟩ := CV'.1 hk; show ∃ d, AK' k (mdel t.m it.b) = some d; rw [hlk, if_neg q2]; exact h1.look k q1
    ·rw [List.map_append, List.nodup_append]
     refine ⟨h2, by simp, fun a ha b hb e => ?_⟩
     simp only [List.map_cons, List.map_nil, List.mem_singleton] at hb; obtain ⟨d, hd, rfl⟩ := List.mem_map.1 ha; have := h3 d hd; rw [e, hb, hcs] at this; exact hnot this
    ·rcases List.mem_append.1 hd with hd | hd
     ·exact hsub _ (h3 d hd)
     ·rw [List.mem_singleton.1 hd, hcs]; exact hin1
    ·refine (hrm x).2 ⟨h4 x hx fun e => hn (hsub _ e), fun e => hn (e ▸ hin1)⟩
theorem QI.exp {A : Qs} {ins : List Int} {np : Nat} (h : QI A ins np) (now : Int) : QI (expA now A).1 (BD' ins (expA now A).2) np /\ JR' ins (expA now A).2 /\ (expA now A).2.length <= A.L.length := by
 obtain ⟨h1, h2, h3, h4⟩ := h.exNi now A.L.length
 have hin : ∀ c ∈ (expA now A).2, c.sq ∈ A.L.map (·.b) := fun c hc => by
  have := h3 c hc
  rwa [List.take_length] at this
 exact ⟨h1, fZ' (fun c hc => (h.mem _).2 (.inl (hin c hc))) h2, (O2' (now := now) (I := A.L) h.mi A.L.length).2.2.1⟩
theorem QI.new (c : Cf) : QI ⟨c, [], 0, [], [], 0, 0⟩ [] 0 :=
 ⟨MI.nil, MI.nil, fun k c h => (by cases h), fun k v h => (by cases h), List.nodup_nil, fun x h => (by cases h), fun k => ⟨fun h => (by cases h), fun h => h.elim (fun h => (by cases h)) fun h => absurd rfl h⟩, List.nodup_nil, fun k h => (by cases h), fun k h => (by cases h), Int.le_refl _, Int.le_refl _, Yd⟩
theorem fU' {a : Int} (h1 : -9223372036854775808 <= a) (h2 : a <= 9223372036854775807) : IntKind.i64.wrap a = a := IntWalk.i64_in _ ω
def and7 (r : Int) : Int := IntKind.i64.wrap ↑(BitVec.ofInt 64 r &&& BitVec.ofInt 64 (Int.ofNat 7)).toNat
theorem UI' (r : Int) : 0 <= and7 r /\ and7 r <= 7 := by
 have h : (BitVec.ofInt 64 r &&& BitVec.ofInt 64 (Int.ofNat 7)).toNat <= 7 := by
  rw [BitVec.toNat_and]; exact Nat.le_trans Nat.and_le_right δ
 unfold and7; rw [fU' ω ω]; omega
def b34 (g : Lf) : List (Nat × AV) := [(5, .ptr 2 0), (6, .ptr 3 0), (7, clG), (31, slV g.sa g.n g.c), (32, iv (Int.ofNat g.n)), (33, iv (Int.ofNat g.j)), (34, tT)]
def Step (W : World) (cd : Code) (A : List (Nat × AV)) (H : LH) (A' : List (Nat × AV)) (H' : LH) : Prop := CTri Θ W cd (tms 0 152 A) H (fun _ : Unit => .normal) (fun _ => tms 0 152 A') (fun _ => H')
theorem Step.seq {W : World} {c1 c2 : Code} {A A1 A2 : List (Nat × AV)} {H H1 H2 : LH} (h1 : Step W c1 A H A1 H1) (h2 : Step W c2 A1 H1 A2 H2) : Step W (.seq c1 c2) A H A2 H2 := CTri.seq (σ := Unit) h1 fun _ => h2
theorem Step.dflt {W : World} {c : Code} {A A1 : List (Nat × AV)} {H H1 : LH} (h : Step default c A H A1 H1) : Step W c A H A1 H1 := fun W0 F N w a Q _ => h W0 F N w a Q B6'
theorem Step.block {W : World} {id : Nat} {c : Code} {A A1 : List (Nat × AV)} {H H1 : LH} (h : Step W c A H A1 H1) : Step W (.block id c) A H A1 H1 := by
 intro W0 F N w a Q hF hN r ha hK; exact wp_block (h W0 F N w a _ hF hN r ha fun q a' w' hs hd => hK q a' w' hs hd)
theorem Step.pre {W : World} {c : Code} {A A1 : List (Nat × AV)} {H H0 H1 : LH} (h : Step W c A H A1 H1) (hg : Goes (tms 0 152 A) H0 (tms 0 152 A) H) : Step W c A H0 A1 H1 := CTri.pre h hg
theorem bT' : ∀ args, RO (gG2 args) := by
 intro args; unfold gG2
 repeat' split
 all_goals exact Kq19'
theorem gLr_ro : ∀ args, RO (gLr args) := by
 intro args; unfold gLr
 repeat' split
 all_goals exact Kq19'
theorem K2' {W : World} {f : FuncId} {A : List AV} {v : AV} {Q Q' : AO} (hQ : Self Q) (hQ' : Self Q') (h : Tri Θ W f (.ptr 0 0 :: A) [(0, Q)] v [(0, Q')]) (hA : ∀ K, AV.cls K A) (hv : ∀ K, AV.cl K v) (F : HP) (hF : B9' W F) : C1OK Θ F f (cQ A v Q Q') :=
 D7' hF (fun _ => v) KL' (fun _ => rfl) (fun _ _ => h) fun _ => ⟨rfl, rfl, ⟨rfl, hA _⟩, A0' (hQ.2 _) A4', ⟨hv _, Ye⟩, A0' (hQ'.2 _) A4'⟩
theorem QA' {W : World} {f : FuncId} {A : List AV} {n : Nat} {R : List Kc} {Q Q' : AO} (hQ : Self Q) (hQ' : Self Q') (h : Tri Θ W f (.ptr 0 0 :: A) [(0, Q)] (slR 1000 n) [(0, Q'), (1000, .cells (rowU R) tKc)]) (hA : ∀ K, AV.cls K A) (F : HP) (hF : B9' W F) : C1OK Θ F f (cQr A n R Q Q') :=
 D7' hF (fun _ => slR 1000 n) KL' (fun _ => rfl) (fun _ _ => h) fun _ => ⟨rfl, rfl, ⟨rfl, hA _⟩, A0' (hQ.2 _) A4', ⟨rfl, Ye⟩, A0' (hQ'.2 _) (A0' (CZ' _ R) A4')⟩
theorem XN' {ins : List Int} {R : List Kc} (hb : ins.length * 8 <= 140737488355328) (hn : ins.Nodup) (hR : R.length * 320 <= 140737488355328) (hG : JR' ins R) (hne : R ≠ []) (F : HP) : C1OK Θ F fGo (cGo R.length R (xI 1004 ins) (xI 1004 (BD' ins R)) (iO ins) (iO (BD' ins R))) :=
 D7' (W := default) B6' (fun _ => bv true) bT' (fun _ => rfl) (fun _ _ => by
  have := T9' ins R hb hn hR hG; rw [(D5' (k := 1005) hne).1, (D5' (k := 1005) hne).2] at this
  exact this) fun _ => ⟨rfl, rfl, ⟨rfl, rfl, Ye⟩, A0' (E2' (QU' rfl _)) (A0' (RH' _ _) (A0' (CZ' _ R) A4')), ⟨Ye, Ye⟩, A0' (E2' (QU' rfl _)) (A0' (RH' _ _) A4')⟩
theorem gI' {ins : List Int} (hb : ins.length * 8 <= 140737488355328) (hn : ins.Nodup) (F : HP) : C1OK Θ F fGo (cGo0 (xI 1004 ins) (iO ins)) :=
 D7' (W := default) B6' (fun _ => bv true) bT' (fun _ => rfl) (fun _ _ => by
  have := T9' ins [] hb hn (by show 0 * 320 <= _; omega) (fun j c h => by simp at h); refine Tri.pre (BR' (k := 1005) (H' := [(0, bxI (xI 1004 ins)), (1004, iO ins), (1005, rO [])]) (fun C => trivial) rfl rfl rfl δ rfl (fun n hn => ?_)) this; simp only [getO]
  by_cases e0 : n = 0
  ·simp only [if_pos e0]
  ·by_cases e1 : n = 1004
   ·simp only [if_neg e0, if_pos e1]
   ·simp only [if_neg e0, if_neg e1, if_neg hn]) fun _ => ⟨rfl, rfl, ⟨Ye, rfl, Ye⟩, A0' (E2' (QU' rfl _)) (A0' (RH' _ _) A4'), ⟨Ye, Ye⟩, A0' (E2' (QU' rfl _)) (A0' (RH' _ _) A4')⟩
theorem BO' (q : Nat × Nat) (l : List Int) : AO.ren (nmG2 q) (bxI (xI 1004 l)) = bxI (xI (nmG2 q 1004) l) := by
 show AO.cells [AV.ren _ _] _ = _; rw [EU']; rfl
theorem CC' (σ : Nat -> Nat) (k : Nat) (l : List Int) : AO.ren σ (bxI (xI k l)) = bxI (xI (σ k) l) := by
 show AO.cells [AV.ren _ _] _ = _; rw [EU']; rfl
theorem p0 (g : Lf) (ins : List Int) (hQ : Self g.Q) (h1 : g.j < g.n) : Step default (fst rb) (bL g) (oL g.Q (bxI (xI 1004 ins)) (iO ins)) (b34 g) (oL g.Q (bxI (xI 1004 ins)) (iO ins)) := by
 have hQ1 : ∀ σ, AO.ren σ g.Q = g.Q := hQ.1; have e1 : decide (Int.ofNat g.j < Int.ofNat g.n) = true := ltT h1
 refine BW' (W := default) (g := fLaw) (ρ := Unit) (ax := fun _ => .normal) (con := []) (hints := AJ' [(fLaw, 9, 0, hv tT)]) (lc := []) 152 (A' := fun _ => b34 g) kP ([5, 6, 7, 31, 32, 33, 34]) rfl (fun F hF => noC) (fun F hF => noL) fun F => ?_
 refine Yj (oD0_eq g (bxI (xI 1004 ins)) (iO ins) F) ⟨⟨?_, rfl, FitT.det (told := b34 g) (H := oL g.Q (bxI (xI 1004 ins)) (iO ins)) (l := [(1004, 1004)]) ⟨χ, by kernel_rfl, ⟨Ya, Ya, Ya, Ya, Ya, Ya, Ya, Ye⟩, ⟨_, rfl, OW.of_eq (hQ1 _).symm⟩, ⟨_, rfl, OW.of_eq (by show bxI (xI 1004 ins) = AO.ren _ (bxI (xI 1004 ins)); rw [CC']; rfl)⟩, ⟨_, rfl, OW.of_eq (AU' _ _).symm⟩, Ye⟩ rfl () rfl (Goes.refl _ _)⟩⟩
 simp only [Cnd.holds, Nat.blt_eq, true_and, and_true, e1]; and_intros; all_goals first | (with_reducible exact Ye) | (with_reducible exact rfl) | (with_reducible exact Ya) | (with_reducible exact Yb) | (with_reducible exact Yc) | (with_reducible exact AM' _) | (with_reducible assumption) | exact A5' e1 | exact Kq0'
theorem p1 (g : Lf) (ins : List Int) (hQ : Self g.Q) : Step default (fst (snd rb)) (b34 g) (oL g.Q (bxI (xI 1004 ins)) (iO ins)) (bL g) (oL g.Q (bxI (xI 1004 ins)) (iO ins)) := by
 have hQ1 : ∀ σ, AO.ren σ g.Q = g.Q := hQ.1
 refine BW' (W := default) (g := fLaw) (ρ := Unit) (ax := fun _ => .normal) (con := []) (hints := AF') (lc := []) 152 (A' := fun _ => bL g) kP ([5, 6, 7, 31, 32, 33]) rfl (fun F hF => noC) (fun F hF => noL) fun F => ?_
 refine Yj (oD1_eq g (bxI (xI 1004 ins)) (iO ins) F) ⟨⟨?_, rfl, FitT.det (told := bL g) (H := oL g.Q (bxI (xI 1004 ins)) (iO ins)) (l := [(1004, 1004)]) ⟨χ, by kernel_rfl, ⟨Ya, Ya, Ya, Ya, Ya, Ya, Ye⟩, ⟨_, rfl, OW.of_eq (hQ1 _).symm⟩, ⟨_, rfl, OW.of_eq (by show bxI (xI 1004 ins) = AO.ren _ (bxI (xI 1004 ins)); rw [CC']; rfl)⟩, ⟨_, rfl, OW.of_eq (AU' _ _).symm⟩, Ye⟩ rfl () rfl (Goes.refl _ _)⟩⟩
 exact Cq15'
def OpAt (W : World) (sa : Option Addr) (j : Nat) (o : Op) : Prop := ∃ a, sa = some a /\ ∀ i (v : Value), ((opA o)[i]? = some (.v v)) -> W.cell? ((a.add (j * 38)).add i) = some v
theorem p2 (W : World) (a : Addr) (gn gc gj : Nat) (gQ : AO) (ins : List Int) (hQ : Self gQ) (o : Op) (h1 : gj < gn) (ho : OpAt W (some a) gj o) : Step W (fst rX) (bL ⟨some a, gn, gc, gj, gQ⟩) (oL gQ (bxI (xI 1004 ins)) (iO ins)) (bP ⟨some a, gn, gc, gj, gQ⟩ []) (oP gQ (bxI (xI 1004 ins)) (iO ins) o) := by
 have hQ1 : ∀ σ, AO.ren σ gQ = gQ := hQ.1; obtain ⟨a', e0, hc⟩ := ho; obtain rfl := Option.some.inj e0; have g0 := hc 0 _ rfl; have g1 := hc 1 _ rfl; have g2 := hc 2 _ rfl; have g3 := hc 3 _ rfl; have g4 := hc 4 _ rfl; have g5 := hc 5 _ rfl; have g6 := hc 6 _ rfl; have g7 := hc 7 _ rfl; have g8 := hc 8 _ rfl; have g9 := hc 9 _ rfl; have g10 := hc 10 _ rfl; have g11 := hc 11 _ rfl; have g12 := hc 12 _ rfl; have g13 := hc 13 _ rfl; have g14 := hc 14 _ rfl; have g15 := hc 15 _ rfl; have g16 := hc 16 _ rfl; have g17 := hc 17 _ rfl; have g18 := hc 18 _ rfl; have g19 := hc 19 _ rfl; have g20 := hc 20 _ rfl; have g21 := hc 21 _ rfl; have g22 := hc 22 _ rfl; have g23 := hc 23 _ rfl; have g24 := hc 24 _ rfl; have g25 := hc 25 _ rfl; have g26 := hc 26 _ rfl; have g27 := hc 27 _ rfl; have g28 := hc 28 _ rfl; have g29 := hc 29 _ rfl; have g30 := hc 30 _ rfl; have g31 := hc 31 _ rfl; have g32 := hc 32 _ rfl; have g33 := hc 33 _ rfl; have g34 := hc 34 _ rfl; have g35 := hc 35 _ rfl; have g36 := hc 36 _ rfl; have g37 := hc 37 _ rfl
 have hall : (([0, 1, 2, 3, 4, 5, 6, 7, 8, 9, 10, 11, 12, 13, 14, 15, 16, 17, 18, 19, 20, 21, 22, 23, 24, 25, 26, 27, 28, 29, 30, 31, 32, 33, 34, 35, 36, 37] : List Nat).all fun i => (W.cell? ((a.add (gj * 38)).add i)).isSome) = true := by
  show ((List.range 38).all fun i => (W.cell? ((a.add (gj * 38)).add i)).isSome) = true
  rw [List.all_eq_true]; intro i hi; have hi := List.mem_range.1 hi; have hlen : (opA o).length = 38 := rfl
  have hg : ∃ v, (opA o)[i]? = some (.v v) := by
   rcases i with _|_|_|_|_|_|_|_|_|_|_|_|_|_|_|_|_|_|_|_|_|_|_|_|_|_|_|_|_|_|_|_|_|_|_|_|_|_|i
   all_goals first | exact ⟨_, rfl⟩ | omega
  obtain ⟨v, hv⟩ := hg; rw [hc i v hv]; rfl
 have f0 : W.cell? ((a.add (gj * 38)).add 0) = _ := g0; have f1 : W.cell? (Addr.mk (a.add (gj * 38)).block ((a.add (gj * 38)).off + 1) none) = _ := g1; have f2 : W.cell? (Addr.mk (a.add (gj * 38)).block ((a.add (gj * 38)).off + 2) none) = _ := g2; have f3 : W.cell? (Addr.mk (a.add (gj * 38)).block ((a.add (gj * 38)).off + 3) none) = _ := g3; have f4 : W.cell? (Addr.mk (a.add (gj * 38)).block ((a.add (gj * 38)).off + 4) none) = _ := g4; have f5 : W.cell? (Addr.mk (a.add (gj * 38)).block ((a.add (gj * 38)).off + 5) none) = _ := g5; have f6 : W.cell? (Addr.mk (a.add (gj * 38)).block ((a.add (gj * 38)).off + 6) none) = _ := g6; have f7 : W.cell? (Addr.mk (a.add (gj * 38)).block ((a.add (gj * 38)).off + 7) none) = _ := g7; have f8 : W.cell? (Addr.mk (a.add (gj * 38)).block ((a.add (gj * 38)).off + 8) none) = _ := g8; have f9 : W.cell? (Addr.mk (a.add (gj * 38)).block ((a.add (gj * 38)).off + 9) none) = _ := g9; have f10 : W.cell? (Addr.mk (a.add (gj * 38)).block ((a.add (gj * 38)).off + 10) none) = _ := g10; have f11 : W.cell? (Addr.mk (a.add (gj * 38)).block ((a.add (gj * 38)).off + 11) none) = _ := g11; have f12 : W.cell? (Addr.mk (a.add (gj * 38)).block ((a.add (gj * 38)).off + 12) none) = _ := g12; have f13 : W.cell? (Addr.mk (a.add (gj * 38)).block ((a.add (gj * 38)).off + 13) none) = _ := g13; have f14 : W.cell? (Addr.mk (a.add (gj * 38)).block ((a.add (gj * 38)).off + 14) none) = _ := g14; have f15 : W.cell? (Addr.mk (a.add (gj * 38)).block ((a.add (gj * 38)).off + 15) none) = _ := g15; have f16 : W.cell? (Addr.mk (a.add (gj * 38)).block ((a.add (gj * 38)).off + 16) none) = _ := g16; have f17 : W.cell? (Addr.mk (a.add (gj * 38)).block ((a.add (gj * 38)).off + 17) none) = _ := g17; have f18 : W.cell? (Addr.mk (a.add (gj * 38)).block ((a.add (gj * 38)).off + 18) none) = _ := g18; have f19 : W.cell? (Addr.mk (a.add (gj * 38)).block ((a.add (gj * 38)).off + 19) none) = _ := g19; have f20 : W.cell? (Addr.mk (a.add (gj * 38)).block ((a.add (gj * 38)).off + 20) none) = _ := g20; have f21 : W.cell? (Addr.mk (a.add (gj * 38)).block ((a.add (gj * 38)).off + 21) none) = _ := g21; have f22 : W.cell? (Addr.mk (a.add (gj * 38)).block ((a.add (gj * 38)).off + 22) none) = _ := g22; have f23 : W.cell? (Addr.mk (a.add (gj * 38)).block ((a.add (gj * 38)).off + 23) none) = _ := g23; have f24 : W.cell? (Addr.mk (a.add (gj * 38)).block ((a.add (gj * 38)).off + 24) none) = _ := g24; have f25 : W.cell? (Addr.mk (a.add (gj * 38)).block ((a.add (gj * 38)).off + 25) none) = _ := g25; have f26 : W.cell? (Addr.mk (a.add (gj * 38)).block ((a.add (gj * 38)).off + 26) none) = _ := g26; have f27 : W.cell? (Addr.mk (a.add (gj * 38)).block ((a.add (gj * 38)).off + 27) none) = _ := g27; have f28 : W.cell? (Addr.mk (a.add (gj * 38)).block ((a.add (gj * 38)).off + 28) none) = _ := g28; have f29 : W.cell? (Addr.mk (a.add (gj * 38)).block ((a.add (gj * 38)).off + 29) none) = _ := g29; have f30 : W.cell? (Addr.mk (a.add (gj * 38)).block ((a.add (gj * 38)).off + 30) none) = _ := g30; have f31 : W.cell? (Addr.mk (a.add (gj * 38)).block ((a.add (gj * 38)).off + 31) none) = _ := g31; have f32 : W.cell? (Addr.mk (a.add (gj * 38)).block ((a.add (gj * 38)).off + 32) none) = _ := g32; have f33 : W.cell? (Addr.mk (a.add (gj * 38)).block ((a.add (gj * 38)).off + 33) none) = _ := g33; have f34 : W.cell? (Addr.mk (a.add (gj * 38)).block ((a.add (gj * 38)).off + 34) none) = _ := g34; have f35 : W.cell? (Addr.mk (a.add (gj * 38)).block ((a.add (gj * 38)).off + 35) none) = _ := g35; have f36 : W.cell? (Addr.mk (a.add (gj * 38)).block ((a.add (gj * 38)).off + 36) none) = _ := g36; have f37 : W.cell? (Addr.mk (a.add (gj * 38)).block ((a.add (gj * 38)).off + 37) none) = _ := g37
 refine BW' (W := W) (g := fLaw) (ρ := Unit) (ax := fun _ => .normal) (con := []) (hints := AJ' [(fLaw, 10, 1, hv (.agg (opA o)))]) (lc := []) 152 (A' := fun _ => bP ⟨some a, gn, gc, gj, gQ⟩ []) kP ([5, 6, 7, 9, 31, 32, 33]) rfl (fun F hF => noC) (fun F hF => noL) fun F => ?_
 refine Yj (oD2_eq W a gn gc gj gQ (bxI (xI 1004 ins)) (iO ins) o F) ⟨⟨?_, rfl, FitT.det (told := bP ⟨some a, gn, gc, gj, gQ⟩ []) (H := oP gQ (bxI (xI 1004 ins)) (iO ins) o) (l := [(1004, 1004), (1011, 1100)]) ⟨χ, by kernel_rfl, ⟨Ya, Ya, Ya, Ya, Ya, Ya, Ya, Ye⟩, ⟨_, rfl, OW.of_eq (hQ1 _).symm⟩, ⟨_, rfl, OW.of_eq (by show bxI (xI 1004 ins) = AO.ren _ (bxI (xI 1004 ins)); rw [CC']; rfl)⟩, ⟨_, rfl, OW.of_eq (AU' _ _).symm⟩, ⟨_, rfl, Yc⟩, Ye⟩ rfl () rfl (Goes.refl _ _)⟩⟩
 simp only [Cnd.holds, Nat.blt_eq, true_and, and_true, hall, f0, f1, f2, f3, f4, f5, f6, f7, f8, f9, f10, f11, f12, f13, f14, f15, f16, f17, f18, f19, f20, f21, f22, f23, f24, f25, f26, f27, f28, f29, f30, f31, f32, f33, f34, f35, f36, f37, Option.getD_some, h1]; and_intros; all_goals exact Kq17'
theorem p3 (g : Lf) (ins : List Int) (hQ : Self g.Q) (o : Op) : Step default (fst (snd rX)) (bP g []) (oP g.Q (bxI (xI 1004 ins)) (iO ins) o) (bP g [(10, bv true)]) (oP g.Q (bxI (xI 1004 ins)) (iO ins) o) := by
 have hQ1 : ∀ σ, AO.ren σ g.Q = g.Q := hQ.1
 refine BW' (W := default) (g := fLaw) (ρ := Unit) (ax := fun _ => .normal) (con := []) (hints := AF') (lc := []) 152 (A' := fun _ => bP g [(10, bv true)]) kP (iP [10]) rfl (fun F hF => noC) (fun F hF => noL) fun F => ?_
 refine Yj (oD3_eq g (bxI (xI 1004 ins)) (iO ins) o F) ⟨⟨?_, rfl, FitT.det (told := bP g [(10, bv true)]) (H := oP g.Q (bxI (xI 1004 ins)) (iO ins) o) (l := [(1004, 1004), (1011, 1011)]) ⟨χ, by kernel_rfl, ⟨Ya, Ya, Ya, Ya, Ya, Ya, Ya, Ya, Ye⟩, ⟨_, rfl, OW.of_eq (hQ1 _).symm⟩, ⟨_, rfl, OW.of_eq (by show bxI (xI 1004 ins) = AO.ren _ (bxI (xI 1004 ins)); rw [CC']; rfl)⟩, ⟨_, rfl, OW.of_eq (AU' _ _).symm⟩, ⟨_, rfl, Yc⟩, Ye⟩ rfl () rfl (Goes.refl _ _)⟩⟩
 exact Cq15'
theorem p4 (g : Lf) (ins : List Int) (hQ : Self g.Q) (o : Op) : Step default (fst (fst (snd (snd rX)))) (bP g [(10, bv true)]) (oP g.Q (bxI (xI 1004 ins)) (iO ins) o) (b4 g (and7 o.kd) []) (oP g.Q (bxI (xI 1004 ins)) (iO ins) o) := by
 have hQ1 : ∀ σ, AO.ren σ g.Q = g.Q := hQ.1
 refine BW' (W := default) (g := fLaw) (ρ := Unit) (ax := fun _ => .normal) (con := []) (hints := AJ' [(fLaw, 12, 2, hv (iv (and7 o.kd)))]) (lc := []) 152 (A' := fun _ => b4 g (and7 o.kd) []) kP ([5, 6, 7, 9, 10, 31, 32, 33, 39]) rfl (fun F hF => noC) (fun F hF => noL) fun F => ?_
 refine Yj (oD4_eq g (bxI (xI 1004 ins)) (iO ins) o (and7 o.kd) F) ⟨⟨?_, rfl, FitT.det (told := b4 g (and7 o.kd) []) (H := oP g.Q (bxI (xI 1004 ins)) (iO ins) o) (l := [(1004, 1004), (1011, 1011)]) ⟨χ, by kernel_rfl, ⟨Ya, Ya, Ya, Ya, Ya, Ya, Ya, Ya, Ya, Ye⟩, ⟨_, rfl, OW.of_eq (hQ1 _).symm⟩, ⟨_, rfl, OW.of_eq (by show bxI (xI 1004 ins) = AO.ren _ (bxI (xI 1004 ins)); rw [CC']; rfl)⟩, ⟨_, rfl, OW.of_eq (AU' _ _).symm⟩, ⟨_, rfl, Yc⟩, Ye⟩ rfl () rfl (Goes.refl _ _)⟩⟩
 exact Cq15'
theorem p6a (g : Lf) (ins : List Int) (hQ : Self g.Q) (o : Op) : Step default (fst rY) (b4 g 0 []) (oP g.Q (bxI (xI 1004 ins)) (iO ins) o) (b4 g 0 [(46, tT)]) (oP g.Q (bxI (xI 1004 ins)) (iO ins) o) := by
 have hQ1 : ∀ σ, AO.ren σ g.Q = g.Q := hQ.1
 refine BW' (W := default) (g := fLaw) (ρ := Unit) (ax := fun _ => .normal) (con := []) (hints := AJ' [(fLaw, 14, 0, hv tT)]) (lc := []) 152 (A' := fun _ => b4 g 0 [(46, tT)]) kP (i4 [46]) rfl (fun F hF => noC) (fun F hF => noL) fun F => ?_
 refine Yj (fJ' g (bxI (xI 1004 ins)) (iO ins) o 0 F) ⟨⟨?_, rfl, FitT.det (told := b4 g 0 [(46, tT)]) (H := oP g.Q (bxI (xI 1004 ins)) (iO ins) o) (l := [(1004, 1004), (1011, 1011)]) ⟨χ, by kernel_rfl, ⟨Ya, Ya, Ya, Ya, Ya, Ya, Ya, Ya, Ya, Ya, Ye⟩, ⟨_, rfl, OW.of_eq (hQ1 _).symm⟩, ⟨_, rfl, OW.of_eq (by show bxI (xI 1004 ins) = AO.ren _ (bxI (xI 1004 ins)); rw [CC']; rfl)⟩, ⟨_, rfl, OW.of_eq (AU' _ _).symm⟩, ⟨_, rfl, Yc⟩, Ye⟩ rfl () rfl (Goes.refl _ _)⟩⟩
 exact Cq16'
theorem p6b (g : Lf) (ins : List Int) (hQ : Self g.Q) (o : Op) : Step default (fst rY) (b4 g 1 []) (oP g.Q (bxI (xI 1004 ins)) (iO ins) o) (b4 g 1 [(46, tT)]) (oP g.Q (bxI (xI 1004 ins)) (iO ins) o) := by
 have hQ1 : ∀ σ, AO.ren σ g.Q = g.Q := hQ.1
 refine BW' (W := default) (g := fLaw) (ρ := Unit) (ax := fun _ => .normal) (con := []) (hints := AJ' [(fLaw, 14, 0, hv tF), (fLaw, 15, 0, hv tT)]) (lc := []) 152 (A' := fun _ => b4 g 1 [(46, tT)]) kP (i4 [46]) rfl (fun F hF => noC) (fun F hF => noL) fun F => ?_
 refine Yj (fI' g (bxI (xI 1004 ins)) (iO ins) o 1 F) ⟨⟨?_, rfl, FitT.det (told := b4 g 1 [(46, tT)]) (H := oP g.Q (bxI (xI 1004 ins)) (iO ins) o) (l := [(1004, 1004), (1011, 1011)]) ⟨χ, by kernel_rfl, ⟨Ya, Ya, Ya, Ya, Ya, Ya, Ya, Ya, Ya, Ya, Ye⟩, ⟨_, rfl, OW.of_eq (hQ1 _).symm⟩, ⟨_, rfl, OW.of_eq (by show bxI (xI 1004 ins) = AO.ren _ (bxI (xI 1004 ins)); rw [CC']; rfl)⟩, ⟨_, rfl, OW.of_eq (AU' _ _).symm⟩, ⟨_, rfl, Yc⟩, Ye⟩ rfl () rfl (Goes.refl _ _)⟩⟩
 exact Cq16'
theorem p6c (g : Lf) (ins : List Int) (hQ : Self g.Q) (o : Op) : Step default (fst rY) (b4 g 2 []) (oP g.Q (bxI (xI 1004 ins)) (iO ins) o) (b4 g 2 [(46, tT)]) (oP g.Q (bxI (xI 1004 ins)) (iO ins) o) := by
 have hQ1 : ∀ σ, AO.ren σ g.Q = g.Q := hQ.1
 refine BW' (W := default) (g := fLaw) (ρ := Unit) (ax := fun _ => .normal) (con := []) (hints := AJ' [(fLaw, 14, 0, hv tF), (fLaw, 15, 0, hv tF), (fLaw, 16, 0, hv tT)]) (lc := []) 152 (A' := fun _ => b4 g 2 [(46, tT)]) kP (i4 [46]) rfl (fun F hF => noC) (fun F hF => noL) fun F => ?_
 refine Yj (fH' g (bxI (xI 1004 ins)) (iO ins) o 2 F) ⟨⟨?_, rfl, FitT.det (told := b4 g 2 [(46, tT)]) (H := oP g.Q (bxI (xI 1004 ins)) (iO ins) o) (l := [(1004, 1004), (1011, 1011)]) ⟨χ, by kernel_rfl, ⟨Ya, Ya, Ya, Ya, Ya, Ya, Ya, Ya, Ya, Ya, Ye⟩, ⟨_, rfl, OW.of_eq (hQ1 _).symm⟩, ⟨_, rfl, OW.of_eq (by show bxI (xI 1004 ins) = AO.ren _ (bxI (xI 1004 ins)); rw [CC']; rfl)⟩, ⟨_, rfl, OW.of_eq (AU' _ _).symm⟩, ⟨_, rfl, Yc⟩, Ye⟩ rfl () rfl (Goes.refl _ _)⟩⟩
 exact Cq16'
theorem p6d (g : Lf) (ins : List Int) (hQ : Self g.Q) (o : Op) (kd : Int) (hk : 3 <= kd) : Step default (fst rY) (b4 g kd []) (oP g.Q (bxI (xI 1004 ins)) (iO ins) o) (b4 g kd [(46, tF)]) (oP g.Q (bxI (xI 1004 ins)) (iO ins) o) := by
 have hQ1 : ∀ σ, AO.ren σ g.Q = g.Q := hQ.1
 have k0 : (kd == Int.ofNat 0) = false := by simp; omega
 have k1 : (kd == Int.ofNat 1) = false := by simp; omega
 have k2 : (kd == Int.ofNat 2) = false := by simp; omega
 refine BW' (W := default) (g := fLaw) (ρ := Unit) (ax := fun _ => .normal) (con := []) (hints := AJ' [(fLaw, 14, 0, hv tF), (fLaw, 15, 0, hv tF), (fLaw, 16, 0, hv tF)]) (lc := []) 152 (A' := fun _ => b4 g kd [(46, tF)]) kP (i4 [46]) rfl (fun F hF => noC) (fun F hF => noL) fun F => ?_
 refine Yj (fG' g (bxI (xI 1004 ins)) (iO ins) o kd F) ⟨⟨?_, rfl, FitT.det (told := b4 g kd [(46, tF)]) (H := oP g.Q (bxI (xI 1004 ins)) (iO ins) o) (l := [(1004, 1004), (1011, 1011)]) ⟨χ, by kernel_rfl, ⟨Ya, Ya, Ya, Ya, Ya, Ya, Ya, Ya, Ya, Ya, Ye⟩, ⟨_, rfl, OW.of_eq (hQ1 _).symm⟩, ⟨_, rfl, OW.of_eq (by show bxI (xI 1004 ins) = AO.ren _ (bxI (xI 1004 ins)); rw [CC']; rfl)⟩, ⟨_, rfl, OW.of_eq (AU' _ _).symm⟩, ⟨_, rfl, Yc⟩, Ye⟩ rfl () rfl (Goes.refl _ _)⟩⟩
 simp only [Cnd.holds, Nat.blt_eq, true_and, and_true]; and_intros; all_goals first | (with_reducible exact Ye) | (with_reducible exact rfl) | (with_reducible exact Ya) | (with_reducible exact Yb) | (with_reducible exact Yc) | (with_reducible exact AM' _) | (with_reducible assumption) | exact A5' k0 | exact A5' k1 | exact A5' k2 | exact Kq0'
theorem e0 (W : World) (g : Lf) (ins : List Int) (hQ : Self g.Q) (Q' : AO) (hQ' : Self Q') (o : Op) (kd n : Int) (h : Tri Θ W CB' [.ptr 0 0, aggK o.k] [(0, g.Q)] (iv n) [(0, Q')]) (hi : ins = []) : Step W (snd rY) (b4 g kd [(46, tT)]) (oP g.Q (bxI (xI 1004 ins)) (iO ins) o) (bR g) (oL Q' (bxI (xI 1004 [n])) (iO [n])) := by
 have hQ1 : ∀ σ, AO.ren σ g.Q = g.Q := hQ.1; have hQ2 : ∀ σ, AO.ren σ Q' = Q' := hQ'.1; subst hi
 refine BW' (W := W) (g := fLaw) (ρ := Unit) (ax := fun _ => .normal) (con := [(CB', cQ [aggK o.k] (iv n) g.Q Q')]) (hints := AF') (lc := []) 152 (A' := fun _ => bR g) kP (i7) rfl (fun F hF => C7' (K2' hQ hQ' h (fun K => ⟨OK' _ _, Ye⟩) (fun K => trivial) F hF)) (fun F hF => noL) fun F => ?_
 refine Yj (oE0_eq W g o kd n Q' F) ⟨⟨?_, rfl, FitT.det (told := bR g) (H := oL Q' (bxI (xI 1004 [n])) (iO [n])) (l := [(1004, 1101)]) ⟨χ, by kernel_rfl, ⟨Ya, Ya, Ya, Ya, Ya, Ya, Ya, Ye⟩, ⟨_, rfl, OW.of_eq ((hQ2 _).trans (hQ2 _).symm)⟩, ⟨_, rfl, Yc⟩, ⟨_, rfl, Yc⟩, Ye⟩ rfl () rfl (Goes.refl _ _)⟩⟩
 exact Cq17'
theorem e1 (W : World) (g : Lf) (ins : List Int) (hQ : Self g.Q) (Q' : AO) (hQ' : Self Q') (o : Op) (kd n : Int) (h : Tri Θ W CB' [.ptr 0 0, aggK o.k] [(0, g.Q)] (iv n) [(0, Q')]) (hi : ins ≠ []) (hb : (ins.length + 1) * 8 <= 140737488355328) : Step W (snd rY) (b4 g kd [(46, tT)]) (oP g.Q (bxI (xI 1004 ins)) (iO ins) o) (bR g) (oL Q' (bxI (slI 1004 (ins.length + 1))) (rZ (ins ++ [n]))) := by
 have hQ1 : ∀ σ, AO.ren σ g.Q = g.Q := hQ.1; have hQ2 : ∀ σ, AO.ren σ Q' = Q' := hQ'.1
 have k1 : (0 + ins.length * 1).ble (vmap (ins.map encZ)).length = true := by rw [C5', Nat.ble_eq]; omega
 have k2 : ((ins.length + 1) * 8).ble 140737488355328 = true := by rw [Nat.ble_eq]; exact hb
 have k3 : (ins.length + 1).ble 9223372036854775807 = true := by rw [Nat.ble_eq]; omega
 have ktk := NL' ins
 have k4 : (List.take (ins.length * 1) (List.drop 0 (vmap (ins.map encZ)))).length.beq (ins.length * 1) = true := by rw [ktk, C5', Nat.mul_one]; exact Nat.beq_refl _
 rw [(I6' hi).1, (I6' (k := 0) hi).2]
 refine BW' (W := W) (g := fLaw) (ρ := Unit) (ax := fun _ => .normal) (con := [(CB', cQ [aggK o.k] (iv n) g.Q Q')]) (hints := AF') (lc := []) 152 (A' := fun _ => bR g) kP (i7) rfl (fun F hF => C7' (K2' hQ hQ' h (fun K => ⟨OK' _ _, Ye⟩) (fun K => trivial) F hF)) (fun F hF => noL) fun F => ?_
 refine Yj (oE1_eq W g o kd n ins ins.length Q' F) ⟨⟨?_, rfl, FitT.det (told := bR g) (H := oL Q' (bxI (slI 1004 (ins.length + 1))) (rZ (ins ++ [n]))) (l := [(1004, 1101)]) ⟨χ, by kernel_rfl, ⟨Ya, Ya, Ya, Ya, Ya, Ya, Ya, Ye⟩, ⟨_, rfl, OW.of_eq ((hQ2 _).trans (hQ2 _).symm)⟩, ⟨_, rfl, Yc⟩, ⟨_, rfl, OW.of_eq (by rw [ktk, BK', VK']; rfl)⟩, Ye⟩ rfl () rfl (Goes.refl _ _)⟩⟩
 simp only [Cnd.holds, Nat.blt_eq, true_and, and_true, C5', k1, k2, k3, k4]; and_intros; all_goals first | (with_reducible exact Ye) | (with_reducible exact rfl) | (with_reducible exact Ya) | (with_reducible exact Yb) | (with_reducible exact Yc) | (with_reducible exact AM' _) | (with_reducible assumption) | exact A5' rfl | exact A5' δ | (rw [Nat.ble_eq]; omega) | exact Kq0'
theorem eon (g : Lf) (ins : List Int) (hQ : Self g.Q) (Q' : AO) (hQ' : Self Q') (o : Op) (h : Tri Θ default EM' (.ptr 0 0 :: []) [(0, g.Q)] (.tuple [aggU kz, bv false]) [(0, Q')]) : Step default (snd rY) (b4 g 3 [(46, tF)]) (oP g.Q (bxI (xI 1004 ins)) (iO ins) o) (bR g) (oL Q' (bxI (xI 1004 ins)) (iO ins)) := by
 have hQ1 : ∀ σ, AO.ren σ g.Q = g.Q := hQ.1; have hQ2 : ∀ σ, AO.ren σ Q' = Q' := hQ'.1
 refine BW' (W := default) (g := fLaw) (ρ := Unit) (ax := fun _ => .normal) (con := [(EM', cQ [] (.tuple [aggU kz, bv false]) g.Q Q')]) (hints := AJ' [(fLaw, 18, 0, hv tT), (fLaw, 20, 0, hv tF)]) (lc := []) 152 (A' := fun _ => bR g) kP (i7) rfl (fun F hF => C7' (K2' hQ hQ' h (fun K => trivial) (by intro K; exact ⟨CR' (K := K) _ trivial trivial, Ye, Ye⟩) F hF)) (fun F hF => noL) fun F => ?_
 refine Yj (fF' g (bxI (xI 1004 ins)) (iO ins) o 3 Q' F) ⟨⟨?_, rfl, FitT.det (told := bR g) (H := oL Q' (bxI (xI 1004 ins)) (iO ins)) (l := [(1004, 1004)]) ⟨χ, by kernel_rfl, ⟨Ya, Ya, Ya, Ya, Ya, Ya, Ya, Ye⟩, ⟨_, rfl, OW.of_eq ((hQ2 _).trans (hQ2 _).symm)⟩, ⟨_, rfl, OW.of_eq (by show bxI (xI 1004 ins) = AO.ren _ (bxI (xI 1004 ins)); rw [CC']; rfl)⟩, ⟨_, rfl, OW.of_eq (AU' _ _).symm⟩, Ye⟩ rfl () rfl (Goes.refl _ _)⟩⟩
 exact Cq17'
theorem epo (g : Lf) (ins : List Int) (hQ : Self g.Q) (Q' : AO) (hQ' : Self Q') (o : Op) (c : Kc) (b : Bool) (h : Tri Θ default fPop (.ptr 0 0 :: []) [(0, g.Q)] (.tuple [aggU c, bv b]) [(0, Q')]) : Step default (snd rY) (b4 g 4 [(46, tF)]) (oP g.Q (bxI (xI 1004 ins)) (iO ins) o) (bR g) (oL Q' (bxI (xI 1004 ins)) (iO ins)) := by
 have hQ1 : ∀ σ, AO.ren σ g.Q = g.Q := hQ.1; have hQ2 : ∀ σ, AO.ren σ Q' = Q' := hQ'.1
 refine BW' (W := default) (g := fLaw) (ρ := Unit) (ax := fun _ => .normal) (con := [(fPop, cQ [] (.tuple [aggU c, bv b]) g.Q Q')]) (hints := AJ' [(fLaw, 18, 0, hv tF), (fLaw, 22, 0, hv tT)]) (lc := []) 152 (A' := fun _ => bR g) kP (i7) rfl (fun F hF => C7' (K2' hQ hQ' h (fun K => trivial) (by intro K; exact ⟨CR' (K := K) _ trivial trivial, Ye, Ye⟩) F hF)) (fun F hF => noL) fun F => ?_
 refine Yj (fD' g (bxI (xI 1004 ins)) (iO ins) o 4 c b Q' F) ⟨⟨?_, rfl, FitT.det (told := bR g) (H := oL Q' (bxI (xI 1004 ins)) (iO ins)) (l := [(1004, 1004)]) ⟨χ, by kernel_rfl, ⟨Ya, Ya, Ya, Ya, Ya, Ya, Ya, Ye⟩, ⟨_, rfl, OW.of_eq ((hQ2 _).trans (hQ2 _).symm)⟩, ⟨_, rfl, OW.of_eq (by show bxI (xI 1004 ins) = AO.ren _ (bxI (xI 1004 ins)); rw [CC']; rfl)⟩, ⟨_, rfl, OW.of_eq (AU' _ _).symm⟩, Ye⟩ rfl () rfl (Goes.refl _ _)⟩⟩
 exact Cq17'
theorem esn (g : Lf) (ins : List Int) (hQ : Self g.Q) (Q' : AO) (hQ' : Self Q') (o : Op) (h : Tri Θ default BL' (.ptr 0 0 :: [iv o.N]) [(0, g.Q)] (.tuple [aggU kz, bv false]) [(0, Q')]) : Step default (snd rY) (b4 g 5 [(46, tF)]) (oP g.Q (bxI (xI 1004 ins)) (iO ins) o) (bR g) (oL Q' (bxI (xI 1004 ins)) (iO ins)) := by
 have hQ1 : ∀ σ, AO.ren σ g.Q = g.Q := hQ.1; have hQ2 : ∀ σ, AO.ren σ Q' = Q' := hQ'.1
 refine BW' (W := default) (g := fLaw) (ρ := Unit) (ax := fun _ => .normal) (con := [(BL', cQ [iv o.N] (.tuple [aggU kz, bv false]) g.Q Q')]) (hints := hS tF) (lc := []) 152 (A' := fun _ => bR g) kP (i7) rfl (fun F hF => C7' (K2' hQ hQ' h (fun K => ⟨Ye, Ye⟩) (by intro K; exact ⟨CR' (K := K) _ trivial trivial, Ye, Ye⟩) F hF)) (fun F hF => noL) fun F => ?_
 refine Yj (fB' g (bxI (xI 1004 ins)) (iO ins) o 5 Q' F) ⟨⟨?_, rfl, FitT.det (told := bR g) (H := oL Q' (bxI (xI 1004 ins)) (iO ins)) (l := [(1004, 1004)]) ⟨χ, by kernel_rfl, ⟨Ya, Ya, Ya, Ya, Ya, Ya, Ya, Ye⟩, ⟨_, rfl, OW.of_eq ((hQ2 _).trans (hQ2 _).symm)⟩, ⟨_, rfl, OW.of_eq (by show bxI (xI 1004 ins) = AO.ren _ (bxI (xI 1004 ins)); rw [CC']; rfl)⟩, ⟨_, rfl, OW.of_eq (AU' _ _).symm⟩, Ye⟩ rfl () rfl (Goes.refl _ _)⟩⟩
 exact Cq17'
theorem ere (g : Lf) (ins : List Int) (hQ : Self g.Q) (Q' : AO) (hQ' : Self Q') (o : Op) (b : Bool) (h : Tri Θ default EI' (.ptr 0 0 :: [iv o.N]) [(0, g.Q)] (bv b) [(0, Q')]) : Step default (snd rY) (b4 g 6 [(46, tF)]) (oP g.Q (bxI (xI 1004 ins)) (iO ins) o) (bR g) (oL Q' (bxI (xI 1004 ins)) (iO ins)) := by
 have hQ1 : ∀ σ, AO.ren σ g.Q = g.Q := hQ.1; have hQ2 : ∀ σ, AO.ren σ Q' = Q' := hQ'.1
 refine BW' (W := default) (g := fLaw) (ρ := Unit) (ax := fun _ => .normal) (con := [(EI', cQ [iv o.N] (bv b) g.Q Q')]) (hints := AJ' [(fLaw, 18, 0, hv tF), (fLaw, 22, 0, hv tF), (fLaw, 24, 0, hv tF), (fLaw, 28, 0, hv tT)]) (lc := []) 152 (A' := fun _ => bR g) kP (i7) rfl (fun F hF => C7' (K2' hQ hQ' h (fun K => ⟨Ye, Ye⟩) (fun K => trivial) F hF)) (fun F hF => noL) fun F => ?_
 refine Yj (fC' g (bxI (xI 1004 ins)) (iO ins) o 6 b Q' F) ⟨⟨?_, rfl, FitT.det (told := bR g) (H := oL Q' (bxI (xI 1004 ins)) (iO ins)) (l := [(1004, 1004)]) ⟨χ, by kernel_rfl, ⟨Ya, Ya, Ya, Ya, Ya, Ya, Ya, Ye⟩, ⟨_, rfl, OW.of_eq ((hQ2 _).trans (hQ2 _).symm)⟩, ⟨_, rfl, OW.of_eq (by show bxI (xI 1004 ins) = AO.ren _ (bxI (xI 1004 ins)); rw [CC']; rfl)⟩, ⟨_, rfl, OW.of_eq (AU' _ _).symm⟩, Ye⟩ rfl () rfl (Goes.refl _ _)⟩⟩
 exact Cq17'
theorem eoy (g : Lf) (ins : List Int) (hQ : Self g.Q) (Q' : AO) (hQ' : Self Q') (o : Op) (c : Kc) (hb : ins.length * 8 <= 140737488355328) (hn : ins.Nodup) (hG : JR' ins [c]) (h : Tri Θ default EM' (.ptr 0 0 :: []) [(0, g.Q)] (.tuple [aggU c, bv true]) [(0, Q')]) : Step default (snd rY) (b4 g 3 [(46, tF)]) (oP g.Q (bxI (xI 1004 ins)) (iO ins) o) (bR g) (oL Q' (bxI (xI 1004 (BD' ins [c]))) (iO (BD' ins [c]))) := by
 have hQ1 : ∀ σ, AO.ren σ g.Q = g.Q := hQ.1; have hQ2 : ∀ σ, AO.ren σ Q' = Q' := hQ'.1
 refine BW' (W := default) (g := fLaw) (ρ := Unit) (ax := fun _ => .normal) (con := [(EM', cQ [] (.tuple [aggU c, bv true]) g.Q Q'), (fGo, cGo 1 [c] (xI 1004 ins) (xI 1004 (BD' ins [c])) (iO ins) (iO (BD' ins [c])))]) (hints := AJ' [(fLaw, 18, 0, hv tT), (fLaw, 20, 0, hv tT)]) (lc := []) 152 (A' := fun _ => bR g) kP (i7) rfl (fun F hF => CY' (K2' hQ hQ' h (fun K => trivial) (by intro K; exact ⟨CR' (K := K) _ trivial trivial, Ye, Ye⟩) F hF) (C7' (XN' (R := [c]) hb hn (by show 1 * 320 <= 140737488355328; decide) hG (by simp) F))) (fun F hF => noL) fun F => ?_
 refine Yj (fE' g (xI 1004 ins) (xI 1004 (BD' ins [c])) (iO ins) (iO (BD' ins [c])) o c 3 Q' F) ⟨⟨?_, rfl, FitT.det (told := bR g) (H := oL Q' (bxI (xI 1004 (BD' ins [c]))) (iO (BD' ins [c]))) (l := [(1004, 1102)]) ⟨χ, by kernel_rfl, ⟨Ya, Ya, Ya, Ya, Ya, Ya, Ya, Ye⟩, ⟨_, rfl, OW.of_eq ((hQ2 _).trans (hQ2 _).symm)⟩, ⟨_, rfl, OW.of_eq (by show AO.cells [AV.ren _ (xI 1004 _)] tB = AO.ren _ (bxI (xI 1004 _)); rw [CC', EU']; rfl)⟩, ⟨_, rfl, OW.of_eq ((AU' _ _).trans (AU' _ _).symm)⟩, Ye⟩ rfl () rfl (Goes.refl _ _)⟩⟩
 exact Cq18'
theorem esy (g : Lf) (ins : List Int) (hQ : Self g.Q) (Q' : AO) (hQ' : Self Q') (o : Op) (c : Kc) (hb : ins.length * 8 <= 140737488355328) (hn : ins.Nodup) (hG : JR' ins [c]) (h : Tri Θ default BL' (.ptr 0 0 :: [iv o.N]) [(0, g.Q)] (.tuple [aggU c, bv true]) [(0, Q')]) : Step default (snd rY) (b4 g 5 [(46, tF)]) (oP g.Q (bxI (xI 1004 ins)) (iO ins) o) (bR g) (oL Q' (bxI (xI 1004 (BD' ins [c]))) (iO (BD' ins [c]))) := by
 have hQ1 : ∀ σ, AO.ren σ g.Q = g.Q := hQ.1; have hQ2 : ∀ σ, AO.ren σ Q' = Q' := hQ'.1
 refine BW' (W := default) (g := fLaw) (ρ := Unit) (ax := fun _ => .normal) (con := [(BL', cQ [iv o.N] (.tuple [aggU c, bv true]) g.Q Q'), (fGo, cGo 1 [c] (xI 1004 ins) (xI 1004 (BD' ins [c])) (iO ins) (iO (BD' ins [c])))]) (hints := hS tT) (lc := []) 152 (A' := fun _ => bR g) kP (i7) rfl (fun F hF => CY' (K2' hQ hQ' h (fun K => ⟨Ye, Ye⟩) (by intro K; exact ⟨CR' (K := K) _ trivial trivial, Ye, Ye⟩) F hF) (C7' (XN' (R := [c]) hb hn (by show 1 * 320 <= 140737488355328; decide) hG (by simp) F))) (fun F hF => noL) fun F => ?_
 refine Yj (fA' g (xI 1004 ins) (xI 1004 (BD' ins [c])) (iO ins) (iO (BD' ins [c])) o c 5 Q' F) ⟨⟨?_, rfl, FitT.det (told := bR g) (H := oL Q' (bxI (xI 1004 (BD' ins [c]))) (iO (BD' ins [c]))) (l := [(1004, 1102)]) ⟨χ, by kernel_rfl, ⟨Ya, Ya, Ya, Ya, Ya, Ya, Ya, Ye⟩, ⟨_, rfl, OW.of_eq ((hQ2 _).trans (hQ2 _).symm)⟩, ⟨_, rfl, OW.of_eq (by show AO.cells [AV.ren _ (xI 1004 _)] tB = AO.ren _ (bxI (xI 1004 _)); rw [CC', EU']; rfl)⟩, ⟨_, rfl, OW.of_eq ((AU' _ _).trans (AU' _ _).symm)⟩, Ye⟩ rfl () rfl (Goes.refl _ _)⟩⟩
 exact Cq18'
theorem ex0 (g : Lf) (ins : List Int) (hQ : Self g.Q) (Q' : AO) (hQ' : Self Q') (o : Op) (hb : ins.length * 8 <= 140737488355328) (hn : ins.Nodup) (h : Tri Θ default G2' [.ptr 0 0, iv o.N] [(0, g.Q)] nilS [(0, Q')]) : Step default (snd rY) (b4 g 7 [(46, tF)]) (oP g.Q (bxI (xI 1004 ins)) (iO ins) o) (bR g) (oL Q' (bxI (xI 1004 ins)) (iO ins)) := by
 have hQ1 : ∀ σ, AO.ren σ g.Q = g.Q := hQ.1; have hQ2 : ∀ σ, AO.ren σ Q' = Q' := hQ'.1
 refine BW' (W := default) (g := fLaw) (ρ := Unit) (ax := fun _ => .normal) (con := [(G2', cQ [iv o.N] nilS g.Q Q'), (fGo, cGo0 (xI 1004 ins) (iO ins))]) (hints := hX) (lc := []) 152 (A' := fun _ => bR g) kP (i7) rfl (fun F hF => CY' (K2' hQ hQ' h (fun K => ⟨Ye, Ye⟩) (fun K => trivial) F hF) (C7' (gI' hb hn F))) (fun F hF => noL) fun F => ?_
 refine Yj (f9' g (xI 1004 ins) (iO ins) o 7 Q' F) ⟨⟨?_, rfl, FitT.det (told := bR g) (H := oL Q' (bxI (xI 1004 ins)) (iO ins)) (l := [(1004, 1100)]) ⟨χ, by kernel_rfl, ⟨Ya, Ya, Ya, Ya, Ya, Ya, Ya, Ye⟩, ⟨_, rfl, OW.of_eq ((hQ2 _).trans (hQ2 _).symm)⟩, ⟨_, rfl, OW.of_eq (by show AO.cells [AV.ren _ (xI 1004 _)] tB = AO.ren _ (bxI (xI 1004 _)); rw [CC', EU']; rfl)⟩, ⟨_, rfl, OW.of_eq ((AU' _ _).trans (AU' _ _).symm)⟩, Ye⟩ rfl () rfl (Goes.refl _ _)⟩⟩
 exact Cq17'
theorem ex1 (g : Lf) (ins : List Int) (hQ : Self g.Q) (Q' : AO) (hQ' : Self Q') (o : Op) (R : List Kc) (hR : R ≠ []) (hRb : R.length * 320 <= 140737488355328) (hb : ins.length * 8 <= 140737488355328) (hn : ins.Nodup) (hG : JR' ins R) (h : Tri Θ default G2' [.ptr 0 0, iv o.N] [(0, g.Q)] (slR 1000 R.length) [(0, Q'), (1000, .cells (rowU R) tKc)]) : Step default (snd rY) (b4 g 7 [(46, tF)]) (oP g.Q (bxI (xI 1004 ins)) (iO ins) o) (bR g) (oL Q' (bxI (xI 1004 (BD' ins R))) (iO (BD' ins R))) := by
 have hQ1 : ∀ σ, AO.ren σ g.Q = g.Q := hQ.1; have hQ2 : ∀ σ, AO.ren σ Q' = Q' := hQ'.1
 refine BW' (W := default) (g := fLaw) (ρ := Unit) (ax := fun _ => .normal) (con := [(G2', cQr [iv o.N] R.length R g.Q Q'), (fGo, cGo R.length R (xI 1004 ins) (xI 1004 (BD' ins R)) (iO ins) (iO (BD' ins R)))]) (hints := hX) (lc := []) 152 (A' := fun _ => bR g) kP (i7) rfl (fun F hF => CY' (QA' hQ hQ' h (fun K => ⟨Ye, Ye⟩) F hF) (C7' (XN' hb hn hRb hG hR F))) (fun F hF => noL) fun F => ?_
 refine Yj (f8' g (xI 1004 ins) (xI 1004 (BD' ins R)) (iO ins) (iO (BD' ins R)) o R R.length 7 Q' F) ⟨⟨?_, rfl, FitT.det (told := bR g) (H := oL Q' (bxI (xI 1004 (BD' ins R))) (iO (BD' ins R))) (l := [(1004, 1101)]) ⟨χ, by kernel_rfl, ⟨Ya, Ya, Ya, Ya, Ya, Ya, Ya, Ye⟩, ⟨_, rfl, OW.of_eq ((hQ2 _).trans (hQ2 _).symm)⟩, ⟨_, rfl, OW.of_eq (by show AO.cells [AV.ren _ (xI 1004 _)] tB = AO.ren _ (bxI (xI 1004 _)); rw [CC', EU']; rfl)⟩, ⟨_, rfl, OW.of_eq ((AU' _ _).trans (AU' _ _).symm)⟩, Ye⟩ rfl () rfl (Goes.refl _ _)⟩⟩
 exact Cq17'
theorem p9 (g : Lf) (ins : List Int) (hQ : Self g.Q) (hj : g.j < 140737488355328) : Step default (snd (snd (snd rb))) (bL g) (oL g.Q (bxI (xI 1004 ins)) (iO ins)) (bL { g with j := g.j + 1 }) (oL g.Q (bxI (xI 1004 ins)) (iO ins)) := by
 have hQ1 : ∀ σ, AO.ren σ g.Q = g.Q := hQ.1; have hw := BZ' g.j ω
 refine BW' (W := default) (g := fLaw) (ρ := Unit) (ax := fun _ => .normal) (con := []) (hints := AJ' [(fLaw, 50, 0, hv (iv (Int.ofNat (g.j + 1))))]) (lc := []) 152 (A' := fun _ => bL { g with j := g.j + 1 }) kP (iL) rfl (fun F hF => noC) (fun F hF => noL) fun F => ?_
 refine Yj (oD9_eq g (bxI (xI 1004 ins)) (iO ins) F) ⟨⟨?_, rfl, FitT.det (told := bL { g with j := g.j + 1 }) (H := oL g.Q (bxI (xI 1004 ins)) (iO ins)) (l := [(1004, 1004)]) ⟨χ, by kernel_rfl, ⟨Ya, Ya, Ya, Ya, Ya, Ya, Ye⟩, ⟨_, rfl, OW.of_eq (hQ1 _).symm⟩, ⟨_, rfl, OW.of_eq (by show bxI (xI 1004 ins) = AO.ren _ (bxI (xI 1004 ins)); rw [CC']; rfl)⟩, ⟨_, rfl, OW.of_eq (AU' _ _).symm⟩, Ye⟩ rfl () rfl (Goes.refl _ _)⟩⟩
 simp only [Cnd.holds, Nat.blt_eq, true_and, and_true]; and_intros; all_goals first | (with_reducible exact Ye) | (with_reducible exact rfl) | (with_reducible exact Ya) | (with_reducible exact Yb) | (with_reducible exact Yc) | (with_reducible exact AM' _) | (with_reducible assumption) | (with_reducible exact AW' hw) | exact Kq0'
theorem tkU (R : List Kc) : List.take (R.length * 25) (List.drop 0 (rowU R)) = rowU R := by
 rw [List.drop_zero, HG', List.take_length]
theorem oneU : ∀ R : List Kc, (rowU R).all AV.one = true
 | [] => rfl
 | c :: R => by rw [CG', List.all_append, oneU R]; rfl
theorem WL' {g : Lf} {I : List Int} {R : List Kc} (hQ : Self g.Q) (hb : I.length * 8 <= 140737488355328) (hRb : R.length * 320 <= 140737488355328) (hI : ∀ c ∈ R, c.sq ∈ I) (hnd : (R.map (·.sq)).Nodup) (hne : R ≠ []) {n : Nat} (hn : n = R.length) (F : HP) : L1OK Θ F (AH' fLaw 32) (lLr g I R n (R.map (·.sq))) := by
 subst hn
 refine EV' (W := default) B6' gLr_ro (fun _ _ => ?_) fun _ => ?_
 ·have h := gT' g I R hQ hb hRb hI hnd
  have hM : R.map (·.sq) ≠ [] := fun e => hne (List.map_eq_nil_iff.1 e)
  rw [(I6' (k := 1006) hM).1, (I6' (k := 1006) hM).2] at h; exact h
 ·simp only [RT.pick]; exact DF' rfl rfl (A0' rfl (A0' rfl (A0' ⟨Ye, rfl, Ye⟩ (A0' Ye (A0' Ye (A0' Ye (A0' Ye (A0' Ye (A0' rfl (A0' Ye (A0' Ye A4'))))))))))) (A0' (hQ.2 _) (A0' (E2' rfl) (A0' (I7' _ _) (A0' (CZ' _ R) A4')))) (A0' rfl (A0' rfl (A0' ⟨Ye, rfl, Ye⟩ (A0' Ye (A0' rfl (A0' Ye (A0' Ye (A0' Ye A4')))))))) (A0' (hQ.2 _) (A0' (E2' rfl) (A0' (I7' _ _) (A0' (I7' _ _) A4'))))
theorem r00 (g : Lf) (hQ : Self g.Q) (h1 : Tri Θ default B8' [.ptr 0 0] [(0, g.Q)] nilS [(0, g.Q)]) (h2 : Tri Θ default fOut [.ptr 0 0] [(0, g.Q)] nilS [(0, g.Q)]) : Step default (rR) (bR g) (oL g.Q (bxI .mt) dumZ) (bL g) (oL g.Q (bxI .mt) dumZ) := by
 have hQ1 : ∀ σ, AO.ren σ g.Q = g.Q := hQ.1
 refine BW' (W := default) (g := fLaw) (ρ := Unit) (ax := fun _ => .normal) (con := [(B8', cQ [] nilS g.Q g.Q), (fOut, cQ [] nilS g.Q g.Q)]) (hints := hR48z) (lc := []) 152 (A' := fun _ => bL g) kP (iL) rfl (fun F hF => CY' (K2' hQ hQ h1 (fun K => trivial) (fun K => trivial) F hF) (C7' (K2' hQ hQ h2 (fun K => trivial) (fun K => trivial) F hF))) (fun F hF => noL) fun F => ?_
 refine Yj (eE' g F) ⟨⟨?_, rfl, FitT.det (told := bL g) (H := oL g.Q (bxI .mt) dumZ) (l := [(1004, 1004)]) ⟨χ, by kernel_rfl, ⟨Ya, Ya, Ya, Ya, Ya, Ya, Ye⟩, ⟨_, rfl, OW.of_eq ((hQ1 _).trans (hQ1 _).symm)⟩, ⟨_, rfl, Yc⟩, ⟨_, rfl, Yc⟩, Ye⟩ rfl () rfl (Goes.refl _ _)⟩⟩
 simp only [Cnd.holds, Nat.blt_eq, true_and, and_true]; and_intros; all_goals exact Kq7'
theorem r10 (g : Lf) (I : List Int) (R : List Kc) (hQ : Self g.Q) (hIn : I ≠ []) (hb : I.length * 8 <= 140737488355328) (hI : ∀ c ∈ R, c.sq ∈ I) (hnd : (R.map (·.sq)).Nodup) (hl : R.length = I.length) (hRb : R.length * 320 <= 140737488355328) (h1 : Tri Θ default B8' [.ptr 0 0] [(0, g.Q)] (slR 1000 R.length) [(0, g.Q), (1000, .cells (rowU R) tKc)]) (h2 : Tri Θ default fOut [.ptr 0 0] [(0, g.Q)] nilS [(0, g.Q)]) : Step default (rR) (bR g) (oL g.Q (bxI (slI 1004 I.length)) (rZ I)) (bL g) (oL g.Q (bxI (slI 1004 I.length)) (rZ I)) := by
 have hQ1 : ∀ σ, AO.ren σ g.Q = g.Q := hQ.1
 have hRn : R ≠ [] := fun e => by
  rw [e] at hl; exact hIn (List.eq_nil_of_length_eq_zero hl.symm)
 obtain ⟨M, hMe⟩ : ∃ M, M = R.map (·.sq) := ⟨_, rfl⟩
 have hM : M.length = I.length := by rw [hMe, List.length_map]; exact hl
 have e1 : ((M.length : Int) != (I.length : Int)) = false := by rw [hM]; simp
 have hp : 0 < R.length := List.length_pos_iff.2 hRn
 have hLr : ∀ F, L1OK Θ F (AH' fLaw 32) (lLr g I R R.length M) := fun F => by rw [hMe]; exact WL' hQ hb hRb hI hnd hRn rfl F
 refine BW' (W := default) (g := fLaw) (ρ := Unit) (ax := fun _ => .normal) (con := [(B8', cQr [] R.length R g.Q g.Q), (fOut, cQ [] nilS g.Q g.Q)]) (hints := hR48) (lc := [(fLaw, 32, AH' fLaw 32, lLr g I R R.length M)]) 152 (A' := fun _ => bL g) kP (iL) rfl (fun F hF => CY' (QA' hQ hQ h1 (fun K => trivial) F hF) (C7' (K2' hQ hQ h2 (fun K => trivial) (fun K => trivial) F hF))) (fun F _ x hx => by rw [List.mem_singleton.1 hx]; exact hLr F) fun F => ?_
 refine Yj (eC' g I M R R.length F) ⟨⟨?_, rfl, FitT.det (told := bL g) (H := oL g.Q (bxI (slI 1004 I.length)) (rZ I)) (l := [(1004, 1004)]) ⟨χ, by kernel_rfl, ⟨Ya, Ya, Ya, Ya, Ya, Ya, Ye⟩, ⟨_, rfl, OW.of_eq ((hQ1 _).trans (hQ1 _).symm)⟩, ⟨_, rfl, Yc⟩, ⟨_, rfl, OW.of_eq ((BK' _ I).trans (BK' _ I).symm)⟩, Ye⟩ rfl () rfl (Goes.refl _ _)⟩⟩
 exact Cq19'
theorem r01 (g : Lf) (I : List Int) (R : List Kc) (hQ : Self g.Q) (hIn : I ≠ []) (hb : I.length * 8 <= 140737488355328) (hI : ∀ c ∈ R, c.sq ∈ I) (hnd : (R.map (·.sq)).Nodup) (hl : R.length = I.length) (hRb : R.length * 320 <= 140737488355328) (h1 : Tri Θ default B8' [.ptr 0 0] [(0, g.Q)] nilS [(0, g.Q)]) (h2 : Tri Θ default fOut [.ptr 0 0] [(0, g.Q)] (slR 1000 R.length) [(0, g.Q), (1000, .cells (rowU R) tKc)]) : Step default (rR) (bR g) (oL g.Q (bxI (slI 1004 I.length)) (rZ I)) (bL g) (oL g.Q (bxI (slI 1004 I.length)) (rZ I)) := by
 have hQ1 : ∀ σ, AO.ren σ g.Q = g.Q := hQ.1
 have hRn : R ≠ [] := fun e => by
  rw [e] at hl; exact hIn (List.eq_nil_of_length_eq_zero hl.symm)
 obtain ⟨M, hMe⟩ : ∃ M, M = R.map (·.sq) := ⟨_, rfl⟩
 have hM : M.length = I.length := by rw [hMe, List.length_map]; exact hl
 have e1 : ((M.length : Int) != (I.length : Int)) = false := by rw [hM]; simp
 have hp : 0 < R.length := List.length_pos_iff.2 hRn
 have hLr : ∀ F, L1OK Θ F (AH' fLaw 32) (lLr g I R R.length M) := fun F => by rw [hMe]; exact WL' hQ hb hRb hI hnd hRn rfl F
 refine BW' (W := default) (g := fLaw) (ρ := Unit) (ax := fun _ => .normal) (con := [(B8', cQ [] nilS g.Q g.Q), (fOut, cQr [] R.length R g.Q g.Q)]) (hints := hR48) (lc := [(fLaw, 32, AH' fLaw 32, lLr g I R R.length M)]) 152 (A' := fun _ => bL g) kP (iL) rfl (fun F hF => CY' (K2' hQ hQ h1 (fun K => trivial) (fun K => trivial) F hF) (C7' (QA' hQ hQ h2 (fun K => trivial) F hF))) (fun F _ x hx => by rw [List.mem_singleton.1 hx]; exact hLr F) fun F => ?_
 refine Yj (eD' g I M R R.length F) ⟨⟨?_, rfl, FitT.det (told := bL g) (H := oL g.Q (bxI (slI 1004 I.length)) (rZ I)) (l := [(1004, 1004)]) ⟨χ, by kernel_rfl, ⟨Ya, Ya, Ya, Ya, Ya, Ya, Ye⟩, ⟨_, rfl, OW.of_eq ((hQ1 _).trans (hQ1 _).symm)⟩, ⟨_, rfl, Yc⟩, ⟨_, rfl, OW.of_eq ((BK' _ I).trans (BK' _ I).symm)⟩, Ye⟩ rfl () rfl (Goes.refl _ _)⟩⟩
 exact Cq19'
theorem r11 (g : Lf) (I : List Int) (R S : List Kc) (hRn : R ≠ []) (hSn : S ≠ []) (hQ : Self g.Q) (hIn : I ≠ []) (hb : I.length * 8 <= 140737488355328) (hI : ∀ c ∈ R ++ S, c.sq ∈ I) (hnd : ((R ++ S).map (·.sq)).Nodup) (hl : (R ++ S).length = I.length) (hRb : (R ++ S).length * 320 <= 140737488355328) (h1 : Tri Θ default B8' [.ptr 0 0] [(0, g.Q)] (slR 1000 R.length) [(0, g.Q), (1000, .cells (rowU R) tKc)]) (h2 : Tri Θ default fOut [.ptr 0 0] [(0, g.Q)] (slR 1000 S.length) [(0, g.Q), (1000, .cells (rowU S) tKc)]) : Step default (rR) (bR g) (oL g.Q (bxI (slI 1004 I.length)) (rZ I)) (bL g) (oL g.Q (bxI (slI 1004 I.length)) (rZ I)) := by
 have hQ1 : ∀ σ, AO.ren σ g.Q = g.Q := hQ.1
 have hT : R ++ S ≠ [] := fun e => hRn (List.append_eq_nil_iff.1 e).1
 obtain ⟨M, hMe⟩ : ∃ M, M = (R ++ S).map (·.sq) := ⟨_, rfl⟩
 have hM : M.length = I.length := by rw [hMe, List.length_map]; exact hl
 have e1 : ((M.length : Int) != (I.length : Int)) = false := by rw [hM]; simp
 have hp : 0 < S.length := List.length_pos_iff.2 hSn; have hlen : R.length + S.length = (R ++ S).length := (List.length_append).symm
 have hLr : ∀ F, L1OK Θ F (AH' fLaw 32) (lLr g I (R ++ S) (R.length + S.length) M) := fun F => by rw [hMe]; exact WL' hQ hb hRb hI hnd hT hlen F
 refine BW' (W := default) (g := fLaw) (ρ := Unit) (ax := fun _ => .normal) (con := [(B8', cQr [] R.length R g.Q g.Q), (fOut, cQr [] S.length S g.Q g.Q)]) (hints := hR48) (lc := [(fLaw, 32, AH' fLaw 32, lLr g I (R ++ S) (R.length + S.length) M)]) 152 (A' := fun _ => bL g) kP (iL) rfl (fun F hF => CY' (QA' hQ hQ h1 (fun K => trivial) F hF) (C7' (QA' hQ hQ h2 (fun K => trivial) F hF))) (fun F _ x hx => by rw [List.mem_singleton.1 hx]; exact hLr F) fun F => ?_
 refine Yj (eB' g I M R S (R ++ S) R.length S.length F) ⟨⟨?_, rfl, FitT.det (told := bL g) (H := oL g.Q (bxI (slI 1004 I.length)) (rZ I)) (l := [(1004, 1004)]) ⟨χ, by kernel_rfl, ⟨Ya, Ya, Ya, Ya, Ya, Ya, Ye⟩, ⟨_, rfl, OW.of_eq ((hQ1 _).trans (hQ1 _).symm)⟩, ⟨_, rfl, Yc⟩, ⟨_, rfl, OW.of_eq ((BK' _ I).trans (BK' _ I).symm)⟩, Ye⟩ rfl () rfl (Goes.refl _ _)⟩⟩
 simp only [Cnd.holds, Nat.blt_eq, true_and, and_true, AC', tkU R, oneU, BV', tkU S]; and_intros; all_goals exact Kq7'
open Rk (MQ')
open List renaming mem_cons_self -> ms'
theorem DK' (d : Nat) (A : Qs) : Self (qO d A) := ⟨fun _ => rfl, fun K => qO_cl K d A⟩
theorem aS' {v : AV} {Q O : AO} (hQ : Self Q) (hv : ∀ K, AV.cl K v) : Goes [v] [(0, Q), (1000, O)] [v] [(0, Q)] := by
 refine LU' rfl rfl (Yb) (fun i o h => ?_) ⟨hv _, Ye⟩ (A0' (hQ.2 _) A4'); simp only [getO] at h ⊢
 by_cases e : i = 0
 ·rw [if_pos e] at h ⊢; exact h
 ·rw [if_neg e] at h; cases h
theorem LE' {f : FuncId} {Ar : List AV} {Q Q' : AO} {R : List Kc} (hQ : Self Q') (h : Tri Θ default f Ar [(0, Q)] (xRk 1000 R) [(0, Q'), (1000, rO R)]) (hR : R = []) : Tri Θ default f Ar [(0, Q)] nilS [(0, Q')] := by
 subst hR; exact Tri.post h (aS' hQ fun K => trivial)
theorem J6' {f : FuncId} {Ar : List AV} {Q Q' : AO} {R : List Kc} (h : Tri Θ default f Ar [(0, Q)] (xRk 1000 R) [(0, Q'), (1000, rO R)]) (hR : R ≠ []) : Tri Θ default f Ar [(0, Q)] (slR 1000 R.length) [(0, Q'), (1000, .cells (rowU R) tKc)] := by
 rw [(D5' (k := 1000) hR).1, (D5' (k := 1000) hR).2] at h; exact h
def hA (d : Nat) (A : Qs) (ins : List Int) : LH := oL (qO d A) (bxI (xI 1004 ins)) (iO ins)
def aA (sa : Option Addr) (n c j : Nat) : List (Nat × AV) := [(5, .ptr 2 0), (6, .ptr 3 0), (7, clG), (31, slV sa n c), (32, iv (Int.ofNat n)), (33, iv (Int.ofNat j))]
theorem Step.cast {W : World} {cd : Code} {A A1 : List (Nat × AV)} {H H1 H2 : LH} (h : Step W cd A H A1 H1) (e : H1 = H2) : Step W cd A H A1 H2 := e ▸ h
theorem hA_ne {d : Nat} {A : Qs} {ins : List Int} (h : ins ≠ []) : hA d A ins = oL (qO d A) (bxI (slI 1004 ins.length)) (rZ ins) := by
 unfold hA; rw [(I6' h).1, (I6' (k := 0) h).2]
theorem OkO_of {A : Qs} {ins : List Int} {np : Nat} (h : QI A ins np) (hb : np * 448 <= 140737488355328) : OkO A.o A.ok := by
 refine ⟨h.oi, ?_, fun k hk => ?_⟩
 ·have := h.size; have := h.len; omega
 ·have hr := h.rng k (h.inO hk); have := h.la1; refine Bool.and_eq_true_iff.2 ⟨decide_eq_true (show (-9223372036854775808 : Int) <= k by omega), decide_eq_true (show k <= (9223372036854775807 : Int) by omega)⟩
theorem YR' (d : Nat) (A : Qs) (ins : List Int) (np : Nat) (hb : np * 448 <= 140737488355328) (h : QI A ins np) (sa : Option Addr) (n c j : Nat) : Step default rR (bR ⟨sa, n, c, j, qO d A⟩) (hA d A ins) (bL ⟨sa, n, c, j, qO d A⟩) (hA d A ins) := by
 have hQ := DK' d A; obtain ⟨t1, t2, t3⟩ := h.told; have hsz := h.size; have hln := h.len; have hr := Aready d A ω (fun x hx => h.look _ (h.inL hx)); have ho := Aout d A ω (OkO_of h hb) (fun k hk => h.look _ (h.inO hk))
 by_cases hi : ins = []
 ·subst hi; have hz : DR' A ++ outA A = [] := List.eq_nil_of_length_eq_zero t3; obtain ⟨z1, z2⟩ := List.append_eq_nil_iff.1 hz; exact r00 ⟨sa, n, c, j, qO d A⟩ hQ (LE' hQ hr z1) (LE' hQ ho z2)
 ·rw [hA_ne hi]
  have hb8 : ins.length * 8 <= 140737488355328 := ω
  have hb3 : (DR' A ++ outA A).length * 320 <= 140737488355328 := ω
  by_cases h1 : DR' A = []
  ·rw [h1, List.nil_append] at t1 t2 t3 hb3
   by_cases h2 : outA A = []
   ·rw [h2] at t3; exact absurd (List.eq_nil_of_length_eq_zero t3.symm) hi
   ·exact r01 ⟨sa, n, c, j, qO d A⟩ ins (outA A) hQ hi hb8 t2 t1 t3 hb3 (LE' hQ hr h1) (J6' ho h2)
  ·by_cases h2 : outA A = []
   ·rw [h2, List.append_nil] at t1 t2 t3 hb3; exact r10 ⟨sa, n, c, j, qO d A⟩ ins (DR' A) hQ hi hb8 t2 t1 t3 hb3 (J6' hr h1) (LE' hQ ho h2)
   ·exact r11 ⟨sa, n, c, j, qO d A⟩ ins (DR' A) (outA A) h1 h2 hQ hi hb8 t2 t1 t3 hb3 (J6' hr h1) (J6' ho h2)
def MidOK (W : World) (sa : Option Addr) (n c j d : Nat) (A : Qs) (ins : List Int) (o : Op) (A' : Qs) (ins' : List Int) : Prop :=
 Step W rY (b4 ⟨sa, n, c, j, qO d A⟩ (and7 o.kd) []) (oP (qO d A) (bxI (xI 1004 ins)) (iO ins) o) (bR ⟨sa, n, c, j, qO d A⟩) (hA d A' ins')
theorem TA' {ins : List Int} {c : Kc} (h : c.sq ∈ ins) : JR' ins [c] := by
 intro j c' hc
 rcases j with _ | j
 ·cases hc; exact h
 ·simp at hc
theorem fQ' (W : World) (sa : Option Addr) (n c j d : Nat) (A : Qs) (ins : List Int) (o : Op) (hb : (j + 1) * 448 <= 140737488355328) (h : QI A ins j) (hk : KAt W.cell? d o.k) : ∃ A' ins', QI A' ins' (j + 1) /\ MidOK W sa n c j d A ins o A' ins' := by
 have hQ := DK' d A; obtain ⟨g, hg⟩ : ∃ g : Lf, g = ⟨sa, n, c, j, qO d A⟩ := ⟨_, rfl⟩
 have hgQ : Self g.Q := by rw [hg]; exact hQ
 have hsz := h.size; have hln := h.len
 have hb8 : ins.length * 8 <= 140737488355328 := ω
 have hRm : MQ' A.L := by show (A.L.length + 1) * 24 <= _; omega
 have hkd := UI' o.kd; obtain ⟨k, hkk⟩ : ∃ k, k = and7 o.kd := ⟨_, rfl⟩; rw [<- hkk] at hkd; unfold MidOK; rw [rY_eq, <- hkk]
 have push : ∀ (p6 : Step default (fst rY) (b4 g k []) (oP g.Q (bxI (xI 1004 ins)) (iO ins) o) (b4 g k [(46, tT)]) (oP g.Q (bxI (xI 1004 ins)) (iO ins) o)), ∃ A' ins', QI A' ins' (j + 1) /\ Step W (.seq (fst rY) (snd rY)) (b4 ⟨sa, n, c, j, qO d A⟩ k []) (oP (qO d A) (bxI (xI 1004 ins)) (iO ins) o) (bR ⟨sa, n, c, j, qO d A⟩) (hA d A' ins') := by
  intro p6; refine ⟨YV' A (er o.k), ins ++ [A.la + 1], h.push (er o.k), ?_⟩; have hp := YC' W d A o.k hk hRm h.la0 (by have := h.la1; omega); subst hg
  by_cases hi : ins = []
  ·exact (Step.dflt p6).seq ((e0 W ⟨sa, n, c, j, qO d A⟩ ins hQ _ (DK' d _) o k (A.la + 1) hp hi).cast (by rw [hi]; rfl))
  ·refine (Step.dflt p6).seq ((e1 W ⟨sa, n, c, j, qO d A⟩ ins hQ _ (DK' d _) o k (A.la + 1) hp hi ω).cast ?_); unfold hA; rw [QT', RG']
 by_cases k0 : k = 0
 ·subst k0; exact push (by rw [hg]; exact p6a _ ins hQ o)
 by_cases k1 : k = 1
 ·subst k1; exact push (by rw [hg]; exact p6b _ ins hQ o)
 by_cases k2 : k = 2
 ·subst k2; exact push (by rw [hg]; exact p6c _ ins hQ o)
 have p6 := p6d ⟨sa, n, c, j, qO d A⟩ ins hQ o k ω
 have fin : ∀ A' ins', QI A' ins' j -> Step default (snd rY) (b4 ⟨sa, n, c, j, qO d A⟩ k [(46, tF)]) (oP (qO d A) (bxI (xI 1004 ins)) (iO ins) o) (bR ⟨sa, n, c, j, qO d A⟩) (hA d A' ins') -> ∃ A' ins', QI A' ins' (j + 1) /\ Step W (.seq (fst rY) (snd rY)) (b4 ⟨sa, n, c, j, qO d A⟩ k []) (oP (qO d A) (bxI (xI 1004 ins)) (iO ins) o) (bR ⟨sa, n, c, j, qO d A⟩) (hA d A' ins') :=
  fun A' ins' hq hs => ⟨A', ins', hq.mono (Nat.le_succ j), (Step.dflt p6).seq (Step.dflt hs)⟩
 by_cases k3 : k = 3
 ·subst k3
  by_cases hn : A.cf.ml < 0
  ·exact fin A ins h (eon ⟨sa, n, c, j, qO d A⟩ ins hQ _ hQ o (YE' d A hn))
  ·by_cases hl : (A.L.length : Int) <= A.cf.ml
   ·exact fin A ins h (eon ⟨sa, n, c, j, qO d A⟩ ins hQ _ hQ o (YF' d A hn hl))
   ·obtain ⟨x, T, hL⟩ : ∃ x T, A.L = x :: T := by
     cases hL : A.L with
     | nil => rw [hL] at hl; exact absurd (by simp; omega) hl
     | cons x T => exact ⟨x, T, rfl⟩
    have hxi : x.b ∈ ins := h.inL (by rw [hL]; exact ms'); obtain ⟨cc, hc⟩ := h.look _ hxi; have hcs : cc.sq = x.b := h.key _ _ hc; have hq := h.over hL; rw [<- hcs] at hq; refine fin _ (notK cc.sq ins) hq (eoy ⟨sa, n, c, j, qO d A⟩ ins hQ _ (DK' d _) o cc hb8 h.nd (TA' (hcs ▸ hxi)) ?_); rw [hcs]; exact UX' d A x T cc hn (by rw [<- hL]; exact hl) hL hc
 by_cases k4 : k = 4
 ·subst k4
  cases hL : A.L with
  | nil => exact fin A ins h (epo ⟨sa, n, c, j, qO d A⟩ ins hQ _ hQ o kz false (b8' d A hL))
  | cons x T =>
   obtain ⟨cc, hc⟩ := h.look _ (h.inL (by rw [hL]; exact ms') : x.b ∈ ins); exact fin _ ins (h.pop hL) (epo ⟨sa, n, c, j, qO d A⟩ ins hQ _ (DK' d _) o cc true (YD' d A x T cc hL hc (h.ldj x (by rw [hL]; exact ms'))))
 by_cases k5 : k = 5
 ·subst k5
  cases ho : AK' o.N A.o with
  | none => exact fin A ins h (esn ⟨sa, n, c, j, qO d A⟩ ins hQ _ hQ o (UV' d A o.N ho))
  | some v =>
   have hv := h.o1 _ _ ho; subst hv; have hxi : o.N ∈ ins := (h.mem _).2 (.inr (by rw [ho]; exact fun e => by cases e)); obtain ⟨cc, hc⟩ := h.look _ hxi; have hcs : cc.sq = o.N := h.key _ _ hc; have hq := h.settle ho; rw [<- hcs] at hq; refine fin _ (notK cc.sq ins) hq (esy ⟨sa, n, c, j, qO d A⟩ ins hQ _ (DK' d _) o cc hb8 h.nd (TA' (hcs ▸ hxi)) ?_); rw [hcs]; exact SI' d A o.N cc ho hc
 by_cases k6 : k = 6
 ·subst k6
  cases ho : AK' o.N A.o with
  | none => exact fin A ins h (ere ⟨sa, n, c, j, qO d A⟩ ins hQ _ hQ o false (UW' d A o.N ho))
  | some v =>
   have hv := h.o1 _ _ ho; subst hv; obtain ⟨cc, hc⟩ := h.look o.N ((h.mem _).2 (.inr (by rw [ho]; exact fun e => by cases e))); have hcs : cc.sq = o.N := h.key _ _ hc
   refine ⟨DQ' (IM' A cc.sq) { cc with re := true }, ins, h.ret (c := cc) (by rw [hcs]; exact ho), (Step.dflt p6).seq (Step.dflt (ere ⟨sa, n, c, j, qO d A⟩ ins hQ _ (DK' d _) o true ?_))⟩
   have := SJ' d A cc hRm (by rw [hcs]; exact ho) (by rw [hcs]; exact hc); rw [hcs] at this ⊢; exact this
 have k7 : k = 7 := ω
 subst k7; obtain ⟨q1, q2, q3⟩ := h.exp o.N; have hx := h6' d A o.N ω h.mi h.lnd (fun x hx => h.look _ (h.inL hx))
 by_cases hR : (expA o.N A).2 = []
 ·rw [hR] at q1; refine fin _ ins q1 (ex0 ⟨sa, n, c, j, qO d A⟩ ins hQ _ (DK' d _) o hb8 h.nd (LE' (DK' d _) hx hR))
 ·exact fin _ _ q1 (ex1 ⟨sa, n, c, j, qO d A⟩ ins hQ _ (DK' d _) o _ hR ω hb8 h.nd q2 (J6' hx hR))
theorem YO' (W : World) (sa : Option Addr) (n c j d : Nat) (A : Qs) (ins : List Int) (o : Op) (hj : j < n) (hb : n * 448 <= 140737488355328) (h : QI A ins j) (ho : OpAt W sa j o) (hk : KAt W.cell? d o.k) : ∃ A' ins', QI A' ins' (j + 1) /\ Step W rb (aA sa n c j) (hA d A ins) (aA sa n c (j + 1)) (hA d A' ins') := by
 have hQ := DK' d A; obtain ⟨A', ins', hq, hm⟩ := fQ' W sa n c j d A ins o ω h hk; refine ⟨A', ins', hq, ?_⟩; obtain ⟨a, rfl, hoc⟩ := ho; have ho : OpAt W (some a) j o := ⟨a, rfl, hoc⟩; rw [rb_eq]; have s0 := p0 ⟨some a, n, c, j, qO d A⟩ ins hQ hj; have s1 := p1 ⟨some a, n, c, j, qO d A⟩ ins hQ; have s2 := p2 W a n c j (qO d A) ins hQ o hj ho; have s3 := p3 ⟨some a, n, c, j, qO d A⟩ ins hQ o; have s4 := p4 ⟨some a, n, c, j, qO d A⟩ ins hQ o; have s5 := YR' d A' ins' (j + 1) ω hq (some a) n c j; have s9 := p9 ⟨some a, n, c, j, qO d A'⟩ ins' (DK' d A') (by show j < _; omega)
 have sX : Step W rX (bL ⟨some a, n, c, j, qO d A⟩) (hA d A ins) (bL ⟨some a, n, c, j, qO d A'⟩) (hA d A' ins') := by
  rw [rX_eq]; exact s2.seq ((Step.dflt s3).seq (((Step.dflt s4).seq hm.block).seq (Step.dflt s5)))
 exact (Step.dflt s0).seq ((Step.dflt s1).seq (sX.block.seq (Step.dflt s9)))
end Go.Proofs.Ytjjjchmkonnpfaa.Qb
namespace Go.Proofs.Ytjjjchmkonnpfaa.Que
open Go Go.RowKit Eng Kit
abbrev fSpeaks : Nat := 6
theorem P3' (w : World) : Calls Θ fSpeaks (List.toArray []) w fun e w' => e = .returned (.bool true) /\ Below w.heap.size w w' :=
 RT' (args := []) χ (fuel := 100000) (fun w => χ) w
noncomputable def cSpeaks : List AV -> Option (AP AV) := mkC (fun _ => .ret ()) (fun _ => True) (fun _ i => i) (fun _ => []) (fun _ => []) (fun _ => .leaf .ret [.v (.bool true)] [])
theorem cSpeaks_ok (F : HP) : C1OK Θ F fSpeaks cSpeaks :=
 D7' (W := default) B6' (fun _ => .v (.bool true)) (fun _ => RO.ret _) (fun _ => rfl) (fun _ _ => TP' (args := []) P3') fun _ => ⟨rfl, rfl, Ye, A4', ⟨Ye, Ye⟩, A4'⟩
end Go.Proofs.Ytjjjchmkonnpfaa.Que
namespace Go.Proofs.Ytjjjchmkonnpfaa.Qb
open Go Go.RowKit Eng Kit Tree
noncomputable section
theorem oDX_eq (sa : Option Addr) (n c : Nat) (Q B O : AO) (F : HP) : B0' [] (AJ' [(fLaw, 9, 0, hv tF)]) [] default fLaw rb (tms 0 152 (aA sa n c n)) (oL Q B O) kP [] F = VT.leaf (AX.exit 0,[],152) [some Q,some B,some O,none,none,none,none,none,none,none,none,none,none] 1100 ((k9' n).a k1') := χ
def cNw (d : Nat) (c : Cf) : List AV -> Option (AP AV) := mkC (fun _ => .ret ()) (fun _ => True) (fun _ k => k) (fun _ => [.agg (cfA c)]) (fun _ => []) (fun _ => .leaf .ret [.ptr 1000 0] [(1000, qO d ⟨c, [], 0, [], [], 0, 0⟩)])
def gMn : List AV -> AP (Nat × Nat) := fun tmps => match getL tmps 5 with
 | .ptr i _ => match getL tmps 6 with
  | .ptr b _ => .ret (i, b)
  | _ => .fail "box"
 | _ => .fail "queue"
def nmMn (q : Nat × Nat) : Nat -> Nat := fun k => match Nat.beq k 2 with
 | true => q.1
 | false => match Nat.beq k 3 with
  | true => q.2
  | false => k
def lMn (sa : Option Addr) (n c : Nat) (Q : AO) : List AV -> AP (AX × List AV) := mkL gMn (fun _ => True) nmMn (fun _ => tms 0 152 (aA sa n c 0)) (fun _ => [(2, Q), (3, bxI .mt)]) (fun _ => .leaf (.exit 0) (tms 0 152 []) [])
abbrev k106' (q0 : Cf) : Cnd := ((p' True).a (f' (VW [AV.agg [z' q0.t1,z' q0.t2,z' q0.ml,z' q0.mp,s' q0.a1,s' q0.a2,s' q0.a3,b' q0.b1,b' q0.b2,b' q0.b3]] [AV.agg [z' q0.t1,z' q0.t2,z' q0.ml,z' q0.mp,s' q0.a1,s' q0.a2,s' q0.a3,b' q0.b1,b' q0.b2,b' q0.b3]])))
theorem oWP_eq (W : World) (c : Cf) (sa : Option Addr) (n cc d : Nat) (F : HP) : wRun [(Que.fSpeaks, Que.cSpeaks), (WZ', cNw d c)] AF' [(fLaw, 9, rb, lMn sa n cc (qO d ⟨c, [], 0, [], [], 0, 0⟩))] W fLaw [.agg (cfA c), slV sa n cc] [] [] F = VT.ite false (VT.leaf (b' false) [] 1101 (k46'.a k1')) (VT.ite false (VT.leaf (b' false) [] 1102 (k46'.a ((k47' c).a ((k106' c).a k1')))) (VT.leaf (b' true) [] 1104 (k46'.a ((k47' c).a ((k106' c).a (k6'.a ((p' ((fLaw,9,rb,lMn sa n cc (qO d (Qs.mk c [] 0 [] [] 0 0))).snd.snd.fst = (fLaw,9,rb,lMn sa n cc (qO d (Qs.mk c [] 0 [] [] 0 0))).snd.snd.fst)).a (k11'.a ((p' (VW (AV.agg [z' c.t1,z' c.t2,z' c.ml,z' c.mp,s' c.a1,s' c.a2,s' c.a3,b' c.b1,b' c.b2,b' c.b3]::AV.v (Value.slice sa n cc)::AV.ptr 1100 0::u'::b' false::AV.ptr 1101 0::AV.ptr 1103 0::AV.func (Fn.func 19) [] [AV.ptr 1103 0]::ru8 (ru4 (u'::u'::u'::b' true::g'::AV.agg [z' c.t1,z' c.t2,z' c.ml,z' c.mp,s' c.a1,s' c.a2,s' c.a3,b' c.b1,b' c.b2,b' c.b3]::AV.ptr 1101 0::AV.ptr 1101 0::g'::AV.slice 1102 0 0 1 (Cp.ex 0)::AV.func (Fn.func 19) [] [AV.ptr 1103 0]::AV.v (Value.slice sa n cc)::z' ↑n::i' 0::ru16 (ru16 (ru16 (ru16 (ru16 (ru16 (ru16 (ru4 (u'::u'::[]))))))))))) (ra4 (a'::AV.ptr 1101 0::AV.ptr 1103 0::AV.func (Fn.func 19) [] [AV.ptr 1103 0]::ra16 (ra4 (a'::a'::a'::AV.v (Value.slice sa n cc)::i' n::i' 0::ra16 (ra16 (ra16 (ra16 (ra16 (ra16 (ra16 (ra4 (a'::a'::[])))))))))))))).a ((ow' (AO.own Md.nothing (exHP (RQ (Qs.mk c [] 0 [] [] 0 (Int.ofNat 0))) (qL d)))).a ((p' (OW (AO.cells [AV.slice 1102 0 0 1 (Cp.ex 0)] 44) (AO.cells [AV.mt] 44))).a k1'))))))))))) := χ
end
theorem TX' {P : Program} {W : World} {b : Code} {σ : Type} (A : σ -> List AV) (H : σ -> LH) {ax : AX} {A' : List AV} {H' : LH} (hax : ax ≠ .normal) (μ : σ -> Nat)
  (hstep : ∀ s, (∃ s', μ s' < μ s /\ CTri P W b (A s) (H s) (fun _ : Unit => .normal) (fun _ => A s') (fun _ => H s')) \/ CTri P W b (A s) (H s) (fun _ : Unit => ax) (fun _ => A') (fun _ => H')) (s : σ) : LTri P W b (A s) (H s) ax A' H' := by
 intro W0 F N w a Q hF hN r ha hK; refine wp_loop_rounds (μ s + 1) ?_
 have key : ∀ (k : Nat) (s : σ), μ s < k -> ∀ (N1 : A3') (w : World) (a1 : Act), (∀ i, i < 1000 -> N1 i = N i) -> NB N1 (H s) -> Rep W0 N1 F (AN' (H s)) w -> VRs N1 (A s) a1.tmps.toList -> a1.defers = a.defers ->
   Code.rounds P b Q k a1 w := by
  intro k
  induction k with
  | zero => intro s hs; omega
  | succ k ih =>
   intro s hs N1 w a1 hN1 hNB r ha hd; rw [rounds_succ]
   rcases hstep s with ⟨s', hμ, hc⟩ | hc
   ·refine hc W0 F N1 w a1 _ hF hNB r ha fun _ a' w' ⟨N3, q1, q2, q3, q4⟩ hd' => ?_
    show Code.rounds P b Q k a' w'; exact ih s' ω N3 w' a' (fun i hi => (q1 i hi).trans (hN1 i hi)) q2 q3 q4 (hd'.trans hd)
   ·refine hc W0 F N1 w a1 _ hF hNB r ha fun _ a' w' ⟨N3, q1, q2, q3, q4⟩ hd' => ?_
    have hfin := hK a' w' ⟨N3, fun i hi => (q1 i hi).trans (hN1 i hi), q2, q3, q4⟩ (hd'.trans hd)
    cases ax with
    | normal => exact absurd rfl hax
    | exit id => exact hfin
    | ret => exact hfin
 exact key _ s ω N w a (fun _ _ => rfl) hN r ha rfl
theorem aP' (W : World) (sa : Option Addr) (n c d : Nat) (A : Qs) (ins : List Int) : CTri Θ W rb (tms 0 152 (aA sa n c n)) (hA d A ins) (fun _ : Unit => .exit 0) (fun _ => tms 0 152 []) (fun _ => []) := by
 have h : CTri Θ default rb (tms 0 152 (aA sa n c n)) (hA d A ins) (fun _ : Unit => .exit 0) (fun _ => tms 0 152 []) (fun _ => []) := by
  refine BW' (W := default) (g := fLaw) (ρ := Unit) (ax := fun _ => .exit 0) (con := []) (hints := AJ' [(fLaw, 9, 0, hv tF)]) (lc := []) (H' := fun _ => []) 152 (A' := fun _ => []) kP [] rfl (fun _ _ => noC) (fun _ _ => noL) fun F => ?_
  refine Yj (oDX_eq sa n c (qO d A) (bxI (xI 1004 ins)) (iO ins) F) ⟨⟨?_, rfl, FitT.det (told := []) (H := []) (l := []) ⟨rfl, rfl, Ye, Ye⟩ rfl () rfl (Goes.refl _ _)⟩⟩; simp only [Cnd.holds, and_true]; exact A5' ltF
 exact fun W0 F N w a Q _ => h W0 F N w a Q B6'
structure OpsAt (W : World) (sa : Option Addr) (n d : Nat) : Prop where
 at' : ∀ j, j < n -> ∃ o, OpAt W sa j o /\ KAt W.cell? d o.k
 fits : n * 448 <= 140737488355328
theorem a4' (W : World) (sa : Option Addr) (n c d : Nat) (hO : OpsAt W sa n d) (cf : Cf) : LTri Θ W rb (tms 0 152 (aA sa n c 0)) [(2, qO d ⟨cf, [], 0, [], [], 0, 0⟩), (3, bxI .mt)] (.exit 0) (tms 0 152 []) [] := by
 refine LTri.pre (BR' (k := 1004) (H' := hA d ⟨cf, [], 0, [], [], 0, 0⟩ []) (fun C => trivial) rfl rfl rfl δ rfl (fun n hn => ?_)) ?_
 ·show getO [(2, _), (3, _), (1004, _)] n = getO [(2, _), (3, _)] n; simp only [getO]
  by_cases e0 : n = 2
  ·simp only [if_pos e0]
  ·by_cases e1 : n = 3
   ·simp only [if_neg e0, if_pos e1]; rfl
   ·simp only [if_neg e0, if_neg e1, if_neg hn]
 ·refine TX' (σ := {x : Nat × Qs × List Int // x.1 <= n /\ QI x.2.1 x.2.2 x.1}) (fun x => tms 0 152 (aA sa n c x.1.1)) (fun x => hA d x.1.2.1 x.1.2.2) (by intro h; cases h) (fun x => n - x.1.1) ?_ ⟨(0, ⟨cf, [], 0, [], [], 0, 0⟩, []), Nat.zero_le _, QI.new cf⟩; rintro ⟨⟨j, A, ins⟩, hj, hq⟩; simp only at hj hq ⊢
  by_cases h1 : j < n
  ·obtain ⟨o, ho, hk⟩ := hO.at' j h1; obtain ⟨A', ins', hq', hs⟩ := YO' W sa n c j d A ins o h1 hO.fits hq ho hk
   exact .inl ⟨⟨(j + 1, A', ins'), h1, hq'⟩, by simp only; omega, hs⟩
  ·have e : j = n := ω
   subst e; exact .inr (aP' W sa j c d A ins)
theorem gMn_ro : ∀ args, RO (gMn args) := by
 intro args; unfold gMn
 repeat' split
 all_goals exact Kq19'
theorem cNw_ok (d : Nat) (c : Cf) (F : HP) : C1OK Θ F WZ' (cNw d c) :=
 D7' (W := default) B6' (fun _ => .ptr 1000 0) (fun _ => RO.ret _) (fun _ => rfl) (fun _ _ => Anew_tri d c) fun _ => ⟨rfl, rfl, ⟨⟨Ye, Ye, Ye, Ye, Ye, Ye, Ye, Ye, Ye, Ye, Ye⟩, Ye⟩, A4', ⟨rfl, Ye⟩, A0' Ye A4'⟩
theorem law_tri (W : World) (c : Cf) (sa : Option Addr) (n cc d : Nat) (hO : OpsAt W sa n d) : Tri Θ W fLaw [.agg (cfA c), slV sa n cc] [] (bv true) [] := by
 have hl : ∀ F, B9' W F -> L1OK Θ F rb (lMn sa n cc (qO d ⟨c, [], 0, [], [], 0, 0⟩)) := fun F hF =>
  EV' (W := W) hF gMn_ro (fun _ _ => a4' W sa n cc d hO c) fun _ => by
   simp only [RT.pick]; exact DF' rfl rfl (A0' rfl (A0' rfl (A0' ⟨Ye, rfl, Ye⟩ (A0' Ye (A0' Ye (A0' Ye A4')))))) (A0' (qO_cl _ d _) (A0' (E2' trivial) A4')) A4' A4'
 refine AR' (W := W) (con := [(Que.fSpeaks, Que.cSpeaks), (WZ', cNw d c)]) (hints := AF') (lc := [(fLaw, 9, rb, lMn sa n cc (qO d ⟨c, [], 0, [], [], 0, 0⟩))]) [] rfl (fun F _ => CY' (Que.cSpeaks_ok F) (C7' (cNw_ok d c F))) (fun F hF => MD' (hl F hF)) fun F => ?_
 refine Yj (oWP_eq W c sa n cc d F) ⟨⟨fun h => (by cases h), fun _ => ⟨fun h => (by cases h), fun _ => ⟨?_, [bv true], [], [], rfl, BC' (vs' := [bv true]) (H' := []) _ rfl rfl (Yb) trivial, Goes.refl _ _⟩⟩⟩⟩
 simp only [Cnd.holds, Nat.blt_eq, true_and, and_true]; and_intros; all_goals first | (with_reducible exact Ye) | (with_reducible exact rfl) | (with_reducible exact Ya) | (with_reducible exact Yb) | (with_reducible exact Yc) | (with_reducible assumption) | exact rfl | exact Ya | exact Yb | exact Yc | exact Qb.ow_cells (VW.cons C3' VW.nil) rfl | ((repeat (first | exact VW.nil | refine VW.cons Ya ?_ | refine VW.cons (Wk.any _) ?_ | refine VW.cons C3' ?_)); done)
end Go.Proofs.Ytjjjchmkonnpfaa.Qb
namespace Go.Proofs.Ytjjjchmkonnpfaa.Tree
open Go.ChangeShapes Go.WideShapes Go.RowKit Go.Deep Go Eng Kit
section
variable {H : Type} {encD : TypeId × Value -> H} {w : World} {base : Nat} {spare : Nat -> Bool} {held : Bool}
theorem GE' {P : Program} {t e : TypeId} {size : Nat} (hC : P.cellsOf e = size) (ht : P.underlying t = some (.slice e)) {fuel : Nat} {cs : List Value} {x : DataW H × List MemPlace} (h : DataW.trod encD P w base spare held fuel t cs = some x) (hL : CD' P t x.1) :
  ∃ oa len c, cs = [.slice oa len c] /\ len * P.bytesOf e <= reachBytes /\ ∃ D : Nat -> DataW H, (∀ i, i < len -> SizeOf.sizeOf (D i) < SizeOf.sizeOf x.1 /\ CD' P e (D i)) /\
   ∀ i, i < len -> ∃ a cs' n Pl, oa = some a /\ cs'.length = size /\ Tree.Cells w.cell? (a.add (i * size)) cs' /\ DataW.trod encD P w base spare held n e cs' = some (D i, Pl) := by
 rcases open_slice ht h with ⟨rfl, rfl⟩ | ⟨a, len, cap, m, n, D, Pl, rfl, hb, hl, hm, hmm, rfl, hi⟩
 ·exact ⟨none, 0, 0, rfl, by simp, fun _ => .nil, (fun i h => ω), fun i h => ω⟩
 ·have hlm : len <= m := by rw [hmm]; split <;> omega
  have hlb := CD'.len ht hL
  refine ⟨some a, len, cap, rfl, Nat.le_trans (Nat.mul_le_mul_right _ (by simp)) hlb, D, fun i hil => ?_, fun i hil => ?_⟩
  ·have hmem : D i ∈ (List.range len).map D := List.mem_map.2 ⟨i, List.mem_range.2 hil, rfl⟩; refine ⟨?_, hL.elem ht hmem⟩; have h1 := List.sizeOf_lt_of_mem hmem; show SizeOf.sizeOf (D i) < SizeOf.sizeOf (DataW.slice ((List.range len).map D) ((List.range (m - len)).map fun j => D (len + j))); simp only [DataW.slice.sizeOf_spec]; omega
  ·obtain ⟨cs', hc, ht'⟩ := hi i ω; obtain ⟨_, hcl, hat⟩ := World.cells?_some hc; rw [hC] at hcl hat
   refine ⟨a, cs', n, Pl i, rfl, hcl, fun j u hu => ?_, ht'⟩
   have hj : j < size := by rw [<- hcl]; exact (List.getElem?_eq_some_iff.1 hu).1
   rw [<- hu, <- hat j hj]
theorem HW' {α : Type} {n : Nat} {P : Nat -> α -> Prop} (h : ∀ i, i < n -> ∃ x, P i x) : ∃ l : List α, l.length = n /\ ∀ i x, l[i]? = some x -> P i x := by
 have h' : ∀ i : Fin n, ∃ x, P i.1 x := fun i => h i.1 i.2
 obtain ⟨g, hg⟩ := Classical.axiomOfChoice h'
 refine ⟨List.ofFn g, by simp, fun i x hx => ?_⟩
 rw [List.getElem?_ofFn] at hx; split at hx
 ·rename_i hlt; cases hx; exact hg ⟨i, hlt⟩
 ·cases hx
mutual
theorem T2' : ∀ (k : Nat) {fuel : Nat} {cs : List Value} {x : DataW H × List MemPlace}, SizeOf.sizeOf x.1 <= k -> DataW.trod encD Θ w base spare held fuel 117 cs = some x -> CD' Θ 117 x.1 -> ∃ v r, cs = r.cells /\ VAt w.cell? k v r
 | 0, fuel, cs, x, hk, h, hL => by
  obtain ⟨ys, n, _, rfl, hlen, hyl, hf⟩ := DataW.trod_struct Try.underlying117 h; have : SizeOf.sizeOf (DataW.agg (ys.map (·.1))) <= 0 := hk; simp only [DataW.agg.sizeOf_spec] at this; omega
 | k + 1, fuel, cs, x, hk, h, hL => by
  obtain ⟨ys, n, _, rfl, hlen, hyl, hf⟩ := DataW.trod_struct Try.underlying117 h
  have zI : Θ.cellsOf 3 = 1 := χ
  have zJ : Θ.cellsOf 2 = 1 := χ
  have zS : Θ.cellsOf 9 = 1 := χ
  have zL : Θ.cellsOf 115 = 1 := χ
  have zT : Θ.cellsOf 34 = 1 := χ
  match cs, hlen.trans (by kernel_rfl : Θ.cellsOf 117 = 5) with
  | [c0, c1, c2, c3, c4], _ =>
   match ys, hyl with
   | [y0, y1, y2, y3, y4], _ =>
    have hs : SizeOf.sizeOf (DataW.agg [y0.1, y1.1, y2.1, y3.1, y4.1]) <= k + 1 := hk; simp only [DataW.agg.sizeOf_spec, List.cons.sizeOf_spec, List.nil.sizeOf_spec] at hs; obtain ⟨a0, e0, x0, b0⟩ := DataW.trod_int Try.underlying3 (by simpa [zI, zJ, zS, zL, zT] using hf 0 _ rfl : DataW.trod encD Θ w base spare held n 3 [c0] = some y0); obtain rfl := (List.cons.inj e0).1; obtain ⟨a1, e1, x1, b1⟩ := DataW.trod_int Try.underlying2 (by simpa [zI, zJ, zS, zL, zT] using hf 1 _ rfl : DataW.trod encD Θ w base spare held n 2 [c1] = some y1); obtain rfl := (List.cons.inj e1).1; obtain ⟨a2, e2, x2, b2⟩ := DataW.trod_string Try.underlying9 (by simpa [zI, zJ, zS, zL, zT] using hf 2 _ rfl : DataW.trod encD Θ w base spare held n 9 [c2] = some y2); obtain rfl := (List.cons.inj e2).1; have l3 : CD' Θ 115 y3.1 := CD'.field Try.underlying117 hL (i := 3) rfl rfl; have l4 : CD' Θ 34 y4.1 := CD'.field Try.underlying117 hL (i := 4) rfl rfl; obtain ⟨la, ll, lc, e3, lb, DL, hd1, hd2⟩ := GE' (size := 5) χ Try.underlying115 (by simpa [zI, zJ, zS, zL, zT] using hf 3 _ rfl : DataW.trod encD Θ w base spare held n 115 [c3] = some y3) l3; obtain rfl := (List.cons.inj e3).1; obtain ⟨ta, tl, tc, e4, tb, DT, ht1, ht2⟩ := GE' (size := 6) χ Try.underlying34 (by simpa [zI, zJ, zS, zL, zT] using hf 4 _ rfl : DataW.trod encD Θ w base spare held n 34 [c4] = some y4) l4; obtain rfl := (List.cons.inj e4).1
    have bV : Θ.bytesOf 117 = 80 := χ
    have bF : Θ.bytesOf 119 = 96 := χ
    rw [bV] at lb; rw [bF] at tb
    obtain ⟨l, hl1, hl2⟩ := HW' (n := ll) (P := fun i x => ∃ a r, la = some a /\ Tree.Cells w.cell? (a.add (i * 5)) r.cells /\ VAt w.cell? k x r) fun i hi => by
     obtain ⟨a, cs', n', Pl, q1, q2, q3, q4⟩ := hd2 i hi; obtain ⟨v, r, rfl, q5⟩ := T2' k (by have := (hd1 i hi).1; show SizeOf.sizeOf (DL i) <= k; omega) q4 (hd1 i hi).2; exact ⟨v, a, r, q1, q3, q5⟩
    obtain ⟨f, hf1, hf2⟩ := HW' (n := tl) (P := fun i (p : Δ × Tv) => ∃ a r, ta = some a /\ Tree.Cells w.cell? (a.add (i * 6)) (.string p.1 :: r.cells) /\ VAt w.cell? k p.2 r) fun i hi => by
     obtain ⟨a, cs', n', Pl, q1, q2, q3, q4⟩ := ht2 i hi; obtain ⟨nm, v, r, rfl, q5⟩ := T3' k (by have := (ht1 i hi).1; show SizeOf.sizeOf (DT i) <= k; omega) q4 (ht1 i hi).2; exact ⟨(nm, v), a, r, q1, q3, q5⟩
    subst hl1 hf1
    exact ⟨.mk a0 a1 a2 l f, ⟨a0, a1, a2, la, l.length, lc, ta, f.length, tc⟩, rfl, ⟨rfl, rfl, rfl, rfl, rfl⟩, ⟨lb, hl2⟩, tb, fun i nm x hx => hf2 i (nm, x) hx⟩
theorem T3' : ∀ (k : Nat) {fuel : Nat} {cs : List Value} {x : DataW H × List MemPlace}, SizeOf.sizeOf x.1 <= k -> DataW.trod encD Θ w base spare held fuel 119 cs = some x -> CD' Θ 119 x.1 -> ∃ nm v r, cs = .string nm :: r.cells /\ VAt w.cell? k v r
 | 0, fuel, cs, x, hk, h, hL => by
  obtain ⟨ys, n, _, rfl, hlen, hyl, hf⟩ := DataW.trod_struct Try.underlying119 h; have : SizeOf.sizeOf (DataW.agg (ys.map (·.1))) <= 0 := hk; simp only [DataW.agg.sizeOf_spec] at this; omega
 | k + 1, fuel, cs, x, hk, h, hL => by
  obtain ⟨ys, n, _, rfl, hlen, hyl, hf⟩ := DataW.trod_struct Try.underlying119 h
  have zS : Θ.cellsOf 9 = 1 := χ
  have zV : Θ.cellsOf 117 = 5 := χ
  match cs, hlen.trans (by kernel_rfl : Θ.cellsOf 119 = 6) with
  | [c0, c1, c2, c3, c4, c5], _ =>
   match ys, hyl with
   | [y0, y1], _ =>
    have hs : SizeOf.sizeOf (DataW.agg [y0.1, y1.1]) <= k + 1 := hk; simp only [DataW.agg.sizeOf_spec, List.cons.sizeOf_spec, List.nil.sizeOf_spec] at hs; obtain ⟨a0, e0, x0, b0⟩ := DataW.trod_string Try.underlying9 (by simpa [zS, zV] using hf 0 _ rfl : DataW.trod encD Θ w base spare held n 9 [c0] = some y0); obtain rfl := (List.cons.inj e0).1; have l1 : CD' Θ 117 y1.1 := CD'.field Try.underlying119 hL (i := 1) rfl rfl; obtain ⟨v, r, e1, q5⟩ := T2' k ω (by simpa [zS, zV] using hf 1 _ rfl : DataW.trod encD Θ w base spare held n 117 [c1, c2, c3, c4, c5] = some y1) l1
    exact ⟨a0, v, r, by rw [e1], q5.deep⟩
end
theorem YZ' {k fuel : Nat} {cs : List Value} {x : DataW H × List MemPlace} (hk : SizeOf.sizeOf x.1 <= k) (h : DataW.trod encD Θ w base spare held fuel 34 cs = some x) (hL : CD' Θ 34 x.1) : ∃ (A : Option Addr) (f : Tf) (c : Nat), cs = [.slice A f.length c] /\ FAt w.cell? k A f := by
 obtain ⟨ta, tl, tc, e4, tb, DT, ht1, ht2⟩ := GE' (size := 6) χ Try.underlying34 h hL
 have bF : Θ.bytesOf 119 = 96 := χ
 rw [bF] at tb
 obtain ⟨f, hf1, hf2⟩ := HW' (n := tl) (P := fun i (p : Δ × Tv) => ∃ a r, ta = some a /\ Tree.Cells w.cell? (a.add (i * 6)) (.string p.1 :: r.cells) /\ VAt w.cell? k p.2 r) fun i hi => by
  obtain ⟨a, cs', n', Pl, q1, q2, q3, q4⟩ := ht2 i hi; obtain ⟨nm, v, r, rfl, q5⟩ := T3' k (by have := (ht1 i hi).1; show SizeOf.sizeOf (DT i) <= _; omega) q4 (ht1 i hi).2; exact ⟨(nm, v), a, r, q1, q3, q5⟩
 subst hf1
 exact ⟨ta, f, tc, e4, tb, fun i nm x hx => hf2 i (nm, x) hx⟩
end
end Go.Proofs.Ytjjjchmkonnpfaa.Tree
namespace Go.Proofs.Ytjjjchmkonnpfaa.Qb
open Go.ChangeShapes Go.WideShapes Go.RowKit Go.Deep Go Eng Kit Tree
variable {fuel k : Nat} {cs : List Value}
section
variable {H : Type} {encD : TypeId × Value -> H} {w : World} {base : Nat} {spare : Nat -> Bool} {held : Bool}
theorem add0 (a : Addr) : a.add 0 = a := rfl
theorem YY' {x : DataW H × List MemPlace} (h : DataW.trod encD Θ w base spare held fuel 37 cs = some x) (hL : CD' Θ 37 x.1) : ∃ (A : Option Addr) (l : List Δ) (c : Nat), cs = [.slice A l.length c] /\ SAt w.cell? A l := by
 obtain ⟨ta, tl, tc, e4, tb, DT, ht1, ht2⟩ := GE' (size := 1) χ Try.underlying37 h hL
 have bF : Θ.bytesOf 9 = 16 := χ
 rw [bF] at tb
 obtain ⟨f, hf1, hf2⟩ := HW' (n := tl) (P := fun i (p : Δ) => ∃ a, ta = some a /\ w.cell? (a.add i) = some (.string p)) fun i hi => by
  obtain ⟨a, cs', n', Pl, q1, q2, q3, q4⟩ := ht2 i hi; obtain ⟨s, rfl, _, _⟩ := DataW.trod_string Try.underlying9 q4; have := q3 0 _ rfl; rw [add0, Nat.mul_one] at this; exact ⟨s, a, q1, this⟩
 subst hf1; exact ⟨ta, f, tc, e4, tb, hf2⟩
theorem VR' {x : DataW H × List MemPlace} (h : DataW.trod encD Θ w base spare held fuel 22 cs = some x) : ∃ (A : Option Addr) (l c : Nat), cs = [.slice A l c] := by
 rcases open_slice Try.underlying22 h with ⟨rfl, _⟩ | ⟨a, len, cap, m, n, D, Pl, rfl, _⟩
 ·exact ⟨_, _, _, rfl⟩
 ·exact ⟨_, _, _, rfl⟩
def bH' (c : Kc) : List Value := [.int .i64 c.fl, .string c.ct, .string c.ce, .slice c.ha c.f.length c.hc, .int .i64 c.dm, .int .i64 c.pr, .string c.s1, .string c.s2, .string c.s3, .string c.s4, .int .i64 c.ts, .string c.s5, .string c.s6, .string c.s7]
def msgV (c : Kc) : List Value := [.string c.ex, .string c.ke, .int .i64 c.fl, .string c.ct, .string c.ce, .slice c.ha c.f.length c.hc, .int .i64 c.dm, .int .i64 c.pr, .string c.s1, .string c.s2, .string c.s3, .string c.s4, .int .i64 c.ts, .string c.s5, .string c.s6, .string c.s7, .int .i64 c.xp, .int .i64 c.pi, .slice c.ta c.tr.length c.tc, .bool c.du]
def cfV (c : Cf) : List Value := [.int .i64 c.t1, .int .i64 c.t2, .int .i64 c.ml, .int .i64 c.mp, .string c.a1, .string c.a2, .string c.a3, .bool c.b1, .bool c.b2, .bool c.b3]
def opV (o : Op) : List Value := [.int .i64 o.kd, .int .i64 o.N] ++ o.k.cells ++ cfV o.cf ++ [.slice o.ca o.cl o.cc]
theorem open_cf {x : DataW H × List MemPlace} (h : DataW.trod encD Θ w base spare held fuel 27 cs = some x) : ∃ c : Cf, cs = cfV c := by
 obtain ⟨ys, n, _, rfl, hlen, hyl, hf⟩ := DataW.trod_struct Try.underlying27 h
 have zB : Θ.cellsOf 4 = 1 := χ
 have zI : Θ.cellsOf 3 = 1 := χ
 have zS : Θ.cellsOf 9 = 1 := χ
 match cs, hlen.trans (by kernel_rfl : Θ.cellsOf 27 = 10) with
 | [c0, c1, c2, c3, c4, c5, c6, c7, c8, c9], _ =>
  match ys, hyl with
  | [y0, y1, y2, y3, y4, y5, y6, y7, y8, y9], _ =>
   obtain ⟨a0, e0, _, _⟩ := DataW.trod_int Try.underlying3 (by simpa [zB, zI, zS] using hf 0 _ rfl : DataW.trod encD Θ w base spare held n 3 [c0] = some y0); obtain rfl := (List.cons.inj e0).1; obtain ⟨a1, e1, _, _⟩ := DataW.trod_int Try.underlying3 (by simpa [zB, zI, zS] using hf 1 _ rfl : DataW.trod encD Θ w base spare held n 3 [c1] = some y1); obtain rfl := (List.cons.inj e1).1; obtain ⟨a2, e2, _, _⟩ := DataW.trod_int Try.underlying3 (by simpa [zB, zI, zS] using hf 2 _ rfl : DataW.trod encD Θ w base spare held n 3 [c2] = some y2); obtain rfl := (List.cons.inj e2).1; obtain ⟨a3, e3, _, _⟩ := DataW.trod_int Try.underlying3 (by simpa [zB, zI, zS] using hf 3 _ rfl : DataW.trod encD Θ w base spare held n 3 [c3] = some y3); obtain rfl := (List.cons.inj e3).1; obtain ⟨a4, e4, _, _⟩ := DataW.trod_string Try.underlying9 (by simpa [zB, zI, zS] using hf 4 _ rfl : DataW.trod encD Θ w base spare held n 9 [c4] = some y4); obtain rfl := (List.cons.inj e4).1; obtain ⟨a5, e5, _, _⟩ := DataW.trod_string Try.underlying9 (by simpa [zB, zI, zS] using hf 5 _ rfl : DataW.trod encD Θ w base spare held n 9 [c5] = some y5); obtain rfl := (List.cons.inj e5).1; obtain ⟨a6, e6, _, _⟩ := DataW.trod_string Try.underlying9 (by simpa [zB, zI, zS] using hf 6 _ rfl : DataW.trod encD Θ w base spare held n 9 [c6] = some y6); obtain rfl := (List.cons.inj e6).1; obtain ⟨a7, e7, _⟩ := DataW.trod_bool Try.underlying4 (by simpa [zB, zI, zS] using hf 7 _ rfl : DataW.trod encD Θ w base spare held n 4 [c7] = some y7); obtain rfl := (List.cons.inj e7).1; obtain ⟨a8, e8, _⟩ := DataW.trod_bool Try.underlying4 (by simpa [zB, zI, zS] using hf 8 _ rfl : DataW.trod encD Θ w base spare held n 4 [c8] = some y8); obtain rfl := (List.cons.inj e8).1; obtain ⟨a9, e9, _⟩ := DataW.trod_bool Try.underlying4 (by simpa [zB, zI, zS] using hf 9 _ rfl : DataW.trod encD Θ w base spare held n 4 [c9] = some y9); obtain rfl := (List.cons.inj e9).1; exact ⟨⟨a0, a1, a2, a3, a4, a5, a6, a7, a8, a9⟩, rfl⟩
theorem TS' {x : DataW H × List MemPlace} (hk : SizeOf.sizeOf x.1 <= k) (h : DataW.trod encD Θ w base spare held fuel 36 cs = some x) (hL : CD' Θ 36 x.1) : ∃ c : Kc, cs = bH' c /\ FAt w.cell? k c.ha c.f := by
 obtain ⟨ys, n, _, rfl, hlen, hyl, hf⟩ := DataW.trod_struct Try.underlying36 h
 have zT : Θ.cellsOf 34 = 1 := χ
 have zI : Θ.cellsOf 3 = 1 := χ
 have zJ : Θ.cellsOf 2 = 1 := χ
 have zS : Θ.cellsOf 9 = 1 := χ
 match cs, hlen.trans (by kernel_rfl : Θ.cellsOf 36 = 14) with
 | [c0, c1, c2, c3, c4, c5, c6, c7, c8, c9, c10, c11, c12, c13], _ =>
  match ys, hyl with
  | [y0, y1, y2, y3, y4, y5, y6, y7, y8, y9, y10, y11, y12, y13], _ =>
   have hs : SizeOf.sizeOf (DataW.agg [y0.1, y1.1, y2.1, y3.1, y4.1, y5.1, y6.1, y7.1, y8.1, y9.1, y10.1, y11.1, y12.1, y13.1]) <= k := hk; simp only [DataW.agg.sizeOf_spec, List.cons.sizeOf_spec, List.nil.sizeOf_spec] at hs; obtain ⟨a0, e0, _, _⟩ := DataW.trod_int Try.underlying3 (by simpa [zT, zI, zJ, zS] using hf 0 _ rfl : DataW.trod encD Θ w base spare held n 3 [c0] = some y0); obtain rfl := (List.cons.inj e0).1; obtain ⟨a1, e1, _, _⟩ := DataW.trod_string Try.underlying9 (by simpa [zT, zI, zJ, zS] using hf 1 _ rfl : DataW.trod encD Θ w base spare held n 9 [c1] = some y1); obtain rfl := (List.cons.inj e1).1; obtain ⟨a2, e2, _, _⟩ := DataW.trod_string Try.underlying9 (by simpa [zT, zI, zJ, zS] using hf 2 _ rfl : DataW.trod encD Θ w base spare held n 9 [c2] = some y2); obtain rfl := (List.cons.inj e2).1; obtain ⟨ha, f, hc, e3, hF⟩ := YZ' (k := k) ω (by simpa [zT, zI, zJ, zS] using hf 3 _ rfl : DataW.trod encD Θ w base spare held n 34 [c3] = some y3) (CD'.field Try.underlying36 hL (i := 3) rfl rfl : CD' Θ 34 y3.1); obtain rfl := (List.cons.inj e3).1; obtain ⟨a4, e4, _, _⟩ := DataW.trod_int Try.underlying3 (by simpa [zT, zI, zJ, zS] using hf 4 _ rfl : DataW.trod encD Θ w base spare held n 3 [c4] = some y4); obtain rfl := (List.cons.inj e4).1; obtain ⟨a5, e5, _, _⟩ := DataW.trod_int Try.underlying3 (by simpa [zT, zI, zJ, zS] using hf 5 _ rfl : DataW.trod encD Θ w base spare held n 3 [c5] = some y5); obtain rfl := (List.cons.inj e5).1; obtain ⟨a6, e6, _, _⟩ := DataW.trod_string Try.underlying9 (by simpa [zT, zI, zJ, zS] using hf 6 _ rfl : DataW.trod encD Θ w base spare held n 9 [c6] = some y6); obtain rfl := (List.cons.inj e6).1; obtain ⟨a7, e7, _, _⟩ := DataW.trod_string Try.underlying9 (by simpa [zT, zI, zJ, zS] using hf 7 _ rfl : DataW.trod encD Θ w base spare held n 9 [c7] = some y7); obtain rfl := (List.cons.inj e7).1; obtain ⟨a8, e8, _, _⟩ := DataW.trod_string Try.underlying9 (by simpa [zT, zI, zJ, zS] using hf 8 _ rfl : DataW.trod encD Θ w base spare held n 9 [c8] = some y8); obtain rfl := (List.cons.inj e8).1; obtain ⟨a9, e9, _, _⟩ := DataW.trod_string Try.underlying9 (by simpa [zT, zI, zJ, zS] using hf 9 _ rfl : DataW.trod encD Θ w base spare held n 9 [c9] = some y9); obtain rfl := (List.cons.inj e9).1; obtain ⟨a10, e10, _, _⟩ := DataW.trod_int Try.underlying2 (by simpa [zT, zI, zJ, zS] using hf 10 _ rfl : DataW.trod encD Θ w base spare held n 2 [c10] = some y10); obtain rfl := (List.cons.inj e10).1; obtain ⟨a11, e11, _, _⟩ := DataW.trod_string Try.underlying9 (by simpa [zT, zI, zJ, zS] using hf 11 _ rfl : DataW.trod encD Θ w base spare held n 9 [c11] = some y11); obtain rfl := (List.cons.inj e11).1; obtain ⟨a12, e12, _, _⟩ := DataW.trod_string Try.underlying9 (by simpa [zT, zI, zJ, zS] using hf 12 _ rfl : DataW.trod encD Θ w base spare held n 9 [c12] = some y12); obtain rfl := (List.cons.inj e12).1; obtain ⟨a13, e13, _, _⟩ := DataW.trod_string Try.underlying9 (by simpa [zT, zI, zJ, zS] using hf 13 _ rfl : DataW.trod encD Θ w base spare held n 9 [c13] = some y13); obtain rfl := (List.cons.inj e13).1
   exact ⟨{ kz with fl := a0, ct := a1, ce := a2, f := f, ha := ha, hc := hc, dm := a4, pr := a5, s1 := a6, s2 := a7, s3 := a8, s4 := a9, ts := a10, s5 := a11, s6 := a12, s7 := a13 }, rfl, hF⟩
theorem Z0' {x : DataW H × List MemPlace} (hk : SizeOf.sizeOf x.1 <= k) (h : DataW.trod encD Θ w base spare held fuel 39 cs = some x) (hL : CD' Θ 39 x.1) : ∃ c : Kc, cs = msgV c /\ KAt w.cell? k c := by
 obtain ⟨ys, n, _, rfl, hlen, hyl, hf⟩ := DataW.trod_struct Try.underlying39 h
 have zX : Θ.cellsOf 37 = 1 := χ
 have zP : Θ.cellsOf 36 = 14 := χ
 have zB : Θ.cellsOf 4 = 1 := χ
 have zI : Θ.cellsOf 3 = 1 := χ
 have zS : Θ.cellsOf 9 = 1 := χ
 match cs, hlen.trans (by kernel_rfl : Θ.cellsOf 39 = 20) with
 | [c0, c1, c2, c3, c4, c5, c6, c7, c8, c9, c10, c11, c12, c13, c14, c15, c16, c17, c18, c19], _ =>
  match ys, hyl with
  | [y0, y1, y2, y3, y4, y5, y6], _ =>
   have hs : SizeOf.sizeOf (DataW.agg [y0.1, y1.1, y2.1, y3.1, y4.1, y5.1, y6.1]) <= k := hk; simp only [DataW.agg.sizeOf_spec, List.cons.sizeOf_spec, List.nil.sizeOf_spec] at hs; obtain ⟨a0, e0, _, _⟩ := DataW.trod_string Try.underlying9 (by simpa [zX, zP, zB, zI, zS] using hf 0 _ rfl : DataW.trod encD Θ w base spare held n 9 [c0] = some y0); obtain rfl := (List.cons.inj e0).1; obtain ⟨a1, e1, _, _⟩ := DataW.trod_string Try.underlying9 (by simpa [zX, zP, zB, zI, zS] using hf 1 _ rfl : DataW.trod encD Θ w base spare held n 9 [c1] = some y1); obtain rfl := (List.cons.inj e1).1; obtain ⟨c, e2, hF⟩ := TS' (k := k) ω (by simpa [zX, zP, zB, zI, zS] using hf 2 _ rfl : DataW.trod encD Θ w base spare held n 36 [c2, c3, c4, c5, c6, c7, c8, c9, c10, c11, c12, c13, c14, c15] = some y2) (CD'.field Try.underlying39 hL (i := 2) rfl rfl : CD' Θ 36 y2.1); simp only [bH', List.cons.injEq, and_true] at e2; obtain ⟨rfl, rfl, rfl, rfl, rfl, rfl, rfl, rfl, rfl, rfl, rfl, rfl, rfl, rfl⟩ := e2; obtain ⟨a3, e3, _, _⟩ := DataW.trod_int Try.underlying3 (by simpa [zX, zP, zB, zI, zS] using hf 3 _ rfl : DataW.trod encD Θ w base spare held n 3 [c16] = some y3); obtain rfl := (List.cons.inj e3).1; obtain ⟨a4, e4, _, _⟩ := DataW.trod_int Try.underlying3 (by simpa [zX, zP, zB, zI, zS] using hf 4 _ rfl : DataW.trod encD Θ w base spare held n 3 [c17] = some y4); obtain rfl := (List.cons.inj e4).1; obtain ⟨ta, tr, tc, e5, hS⟩ := YY' (by simpa [zX, zP, zB, zI, zS] using hf 5 _ rfl : DataW.trod encD Θ w base spare held n 37 [c18] = some y5) (CD'.field Try.underlying39 hL (i := 5) rfl rfl : CD' Θ 37 y5.1); obtain rfl := (List.cons.inj e5).1; obtain ⟨a6, e6, _⟩ := DataW.trod_bool Try.underlying4 (by simpa [zX, zP, zB, zI, zS] using hf 6 _ rfl : DataW.trod encD Θ w base spare held n 4 [c19] = some y6); obtain rfl := (List.cons.inj e6).1
   exact ⟨{ c with ex := a0, ke := a1, xp := a3, pi := a4, tr := tr, ta := ta, tc := tc, du := a6 }, rfl, hF, hS⟩
theorem VS' {x : DataW H × List MemPlace} (hk : SizeOf.sizeOf x.1 <= k) (h : DataW.trod encD Θ w base spare held fuel 41 cs = some x) (hL : CD' Θ 41 x.1) : ∃ c : Kc, cs = c.cells /\ KAt w.cell? k c := by
 obtain ⟨ys, n, _, rfl, hlen, hyl, hf⟩ := DataW.trod_struct Try.underlying41 h
 have zM : Θ.cellsOf 39 = 20 := χ
 have zB : Θ.cellsOf 4 = 1 := χ
 have zI : Θ.cellsOf 3 = 1 := χ
 match cs, hlen.trans (by kernel_rfl : Θ.cellsOf 41 = 25) with
 | [c0, c1, c2, c3, c4, c5, c6, c7, c8, c9, c10, c11, c12, c13, c14, c15, c16, c17, c18, c19, c20, c21, c22, c23, c24], _ =>
  match ys, hyl with
  | [y0, y1, y2, y3, y4, y5], _ =>
   have hs : SizeOf.sizeOf (DataW.agg [y0.1, y1.1, y2.1, y3.1, y4.1, y5.1]) <= k := hk; simp only [DataW.agg.sizeOf_spec, List.cons.sizeOf_spec, List.nil.sizeOf_spec] at hs; obtain ⟨a0, e0, _, _⟩ := DataW.trod_int Try.underlying3 (by simpa [zM, zB, zI] using hf 0 _ rfl : DataW.trod encD Θ w base spare held n 3 [c0] = some y0); obtain rfl := (List.cons.inj e0).1; obtain ⟨a1, e1, _, _⟩ := DataW.trod_int Try.underlying3 (by simpa [zM, zB, zI] using hf 1 _ rfl : DataW.trod encD Θ w base spare held n 3 [c1] = some y1); obtain rfl := (List.cons.inj e1).1; obtain ⟨a2, e2, _, _⟩ := DataW.trod_int Try.underlying3 (by simpa [zM, zB, zI] using hf 2 _ rfl : DataW.trod encD Θ w base spare held n 3 [c2] = some y2); obtain rfl := (List.cons.inj e2).1; obtain ⟨a3, e3, _, _⟩ := DataW.trod_int Try.underlying3 (by simpa [zM, zB, zI] using hf 3 _ rfl : DataW.trod encD Θ w base spare held n 3 [c3] = some y3); obtain rfl := (List.cons.inj e3).1; obtain ⟨c, e4, hK⟩ := Z0' (k := k) ω (by simpa [zM, zB, zI] using hf 4 _ rfl : DataW.trod encD Θ w base spare held n 39 [c4, c5, c6, c7, c8, c9, c10, c11, c12, c13, c14, c15, c16, c17, c18, c19, c20, c21, c22, c23] = some y4) (CD'.field Try.underlying41 hL (i := 4) rfl rfl : CD' Θ 39 y4.1); simp only [msgV, List.cons.injEq, and_true] at e4; obtain ⟨rfl, rfl, rfl, rfl, rfl, rfl, rfl, rfl, rfl, rfl, rfl, rfl, rfl, rfl, rfl, rfl, rfl, rfl, rfl, rfl⟩ := e4; obtain ⟨a5, e5, _⟩ := DataW.trod_bool Try.underlying4 (by simpa [zM, zB, zI] using hf 5 _ rfl : DataW.trod encD Θ w base spare held n 4 [c24] = some y5); obtain rfl := (List.cons.inj e5).1
   exact ⟨{ c with sq := a0, gh := a1, bo := a2, si := a3, re := a5 }, rfl, hK⟩
theorem dP' {x : DataW H × List MemPlace} (hk : SizeOf.sizeOf x.1 <= k) (h : DataW.trod encD Θ w base spare held fuel 53 cs = some x) (hL : CD' Θ 53 x.1) : ∃ o : Op, cs = opV o /\ KAt w.cell? k o.k := by
 obtain ⟨ys, n, _, rfl, hlen, hyl, hf⟩ := DataW.trod_struct Try.underlying53 h
 have zN : Θ.cellsOf 22 = 1 := χ
 have zC : Θ.cellsOf 27 = 10 := χ
 have zK : Θ.cellsOf 41 = 25 := χ
 have zI : Θ.cellsOf 3 = 1 := χ
 match cs, hlen.trans (by kernel_rfl : Θ.cellsOf 53 = 38) with
 | c0 :: c1 :: c2 :: c3 :: c4 :: c5 :: c6 :: c7 :: c8 :: c9 :: c10 :: c11 :: c12 :: c13 :: c14 :: c15 :: c16 :: c17 :: c18 :: c19 :: c20 :: c21 :: c22 :: c23 :: c24 :: c25 :: c26 :: c27 :: c28 :: c29 :: c30 :: c31 :: c32 :: c33 :: c34 :: c35 :: c36 :: c37 :: [], _ =>
  match ys, hyl with
  | [y0, y1, y2, y3, y4], _ =>
   have hs : SizeOf.sizeOf (DataW.agg [y0.1, y1.1, y2.1, y3.1, y4.1]) <= k := hk; simp only [DataW.agg.sizeOf_spec, List.cons.sizeOf_spec, List.nil.sizeOf_spec] at hs; obtain ⟨a0, e0, _, _⟩ := DataW.trod_int Try.underlying3 (by simpa [zN, zC, zK, zI] using hf 0 _ rfl : DataW.trod encD Θ w base spare held n 3 [c0] = some y0); obtain rfl := (List.cons.inj e0).1; obtain ⟨a1, e1, _, _⟩ := DataW.trod_int Try.underlying3 (by simpa [zN, zC, zK, zI] using hf 1 _ rfl : DataW.trod encD Θ w base spare held n 3 [c1] = some y1); obtain rfl := (List.cons.inj e1).1; obtain ⟨c, e2, hK⟩ := VS' (k := k) ω (by simpa [zN, zC, zK, zI] using hf 2 _ rfl : DataW.trod encD Θ w base spare held n 41 [c2, c3, c4, c5, c6, c7, c8, c9, c10, c11, c12, c13, c14, c15, c16, c17, c18, c19, c20, c21, c22, c23, c24, c25, c26] = some y2) (CD'.field Try.underlying53 hL (i := 2) rfl rfl : CD' Θ 41 y2.1); simp only [Kc.cells, List.cons.injEq, and_true] at e2; obtain ⟨rfl, rfl, rfl, rfl, rfl, rfl, rfl, rfl, rfl, rfl, rfl, rfl, rfl, rfl, rfl, rfl, rfl, rfl, rfl, rfl, rfl, rfl, rfl, rfl, rfl⟩ := e2; obtain ⟨cf, e3⟩ := open_cf (by simpa [zN, zC, zK, zI] using hf 3 _ rfl : DataW.trod encD Θ w base spare held n 27 [c27, c28, c29, c30, c31, c32, c33, c34, c35, c36] = some y3); simp only [cfV, List.cons.injEq, and_true] at e3; obtain ⟨rfl, rfl, rfl, rfl, rfl, rfl, rfl, rfl, rfl, rfl⟩ := e3; obtain ⟨ca, cl, cc, e4⟩ := VR' (by simpa [zN, zC, zK, zI] using hf 4 _ rfl : DataW.trod encD Θ w base spare held n 22 [c37] = some y4); obtain rfl := (List.cons.inj e4).1; exact ⟨⟨a0, a1, c, cf, ca, cl, cc⟩, rfl, hK⟩
theorem vmap_v {l : List Value} {i : Nat} {v : Value} (h : (vmap l)[i]? = some (.v v)) : l[i]? = some v := by
 rw [vmap, List.getElem?_map] at h
 cases e : l[i]? with
 | none => rw [e] at h; cases h
 | some u => rw [e] at h; cases h; rfl
theorem opA_v (o : Op) : opA o = vmap (opV o) := rfl
theorem open_ops {A : Option Addr} {len cap : Nat} {x : DataW H × List MemPlace} (h : DataW.trod encD Θ w base spare held fuel 50 [.slice A len cap] = some x) (hL : CD' Θ 50 x.1) : ∃ d, OpsAt w A len d := by
 obtain ⟨ta, tl, tc, e4, tb, DT, ht1, ht2⟩ := GE' (size := 38) χ Try.underlying50 h hL; simp only [List.cons.injEq, Value.slice.injEq, and_true] at e4; obtain ⟨rfl, rfl, rfl⟩ := e4
 have bF : Θ.bytesOf 53 = 448 := χ
 rw [bF] at tb
 refine ⟨SizeOf.sizeOf x.1, fun j hj => ?_, Nat.le_trans tb δ⟩
 obtain ⟨a, cs', n', Pl, rfl, q2, q3, q4⟩ := ht2 j hj; obtain ⟨o, rfl, hk⟩ := dP' (k := SizeOf.sizeOf x.1) (by have := (ht1 j hj).1; show SizeOf.sizeOf (DT j) <= _; omega) q4 (ht1 j hj).2
 exact ⟨o, ⟨a, rfl, fun i v hv => q3 i v (vmap_v (opA_v o ▸ hv))⟩, hk⟩
end
end Go.Proofs.Ytjjjchmkonnpfaa.Qb
