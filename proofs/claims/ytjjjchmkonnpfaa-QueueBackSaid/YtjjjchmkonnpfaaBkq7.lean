/- Parts of the proof, merged. -/
import Derived.Test.YtjjjchmkonnpfaaBkq6
import Derived.Test.YtjjjchmkonnpfaaBkq4
noncomputable section
set_option linter.unusedVariables false
set_option linter.unusedSimpArgs false
set_option maxRecDepth 100000
set_option linter.unusedSectionVars false
namespace Go.Proofs.Ytjjjchmkonnpfaa.Qb
open Go Go.RowKit Eng Kit Tree
open Rk (lO itA BZ' putL GZ' remK)
noncomputable section
abbrev fQB : Nat := 4
def qT (d : Nat) (l : List Int) (A : Qs) : AO := .own (.turns l) (exHP (RQ A) (qL d))
def cB (A : List AV) (v : AV) (Q Q' : AO) : List AV -> Option (AP AV) := mkC gP1 (fun _ => True) nmP (fun _ => .ptr 0 0 :: A) (fun _ => [(0, Q)]) (fun _ => .leaf .ret [v] [(0, Q')])
def aPu (sa : Option Addr) (n c j : Nat) : List (Nat × AV) := [(1, slV sa n c), (5, .ptr 2 0), (23, slV sa n c), (24, iv (Int.ofNat n)), (25, iv (Int.ofNat j))]
def iPu : List Nat := [1, 5, 23, 24, 25]
def hPu (j : Nat) (e : Kc) : AO' := AN' [ht' fQB 7 0, (fQB, 8, 1, hv (aggK e)), (fQB, 10, 0, hv (iv (Int.ofNat (j + 1))))]
theorem e5' (W : World) (a : Addr) (n c j : Nat) (e : Kc) (m : Int) (Q Q' : AO) (F : HP) : BI' [(CI', cB [aggK e] (iv m) Q Q')] (hPu j e) [] W fQB (AB' fQB 7) (tms 0 88 (aPu (some a) n c j)) [(2, Q)] [2, 1100] iPu F = VT.leaf (AX.normal,[AV.v (Value.slice (some a) n c),AV.ptr 2 0,AV.v (Value.slice (some a) n c),i' n,i' (j + 1)],88) [some (AO.ren (sgN (nmP 2) [] 0) Q'),some (AO.cells [z' e.sq,z' e.gh,z' e.bo,z' e.si,s' e.ex,s' e.ke,z' e.fl,s' e.ct,s' e.ce,AV.v (Value.slice e.ha (List.length e.f) e.hc),z' e.dm,z' e.pr,s' e.s1,s' e.s2,s' e.s3,s' e.s4,z' e.ts,s' e.s5,s' e.s6,s' e.s7,z' e.xp,z' e.pi,AV.v (Value.slice e.ta e.tr.length e.tc),b' e.du,b' e.re] 82)] 1101 (h23' j n (((p' (([0,1,2,3,4,5,6,7,8,9,10,11,12,13,14,15,16,17,18,19,20,21,22,23,24].all fun j_1 => (W.cell? ((a.add (j * 25)).add j_1)).isSome) = true)).a ((p' ([AV.v ((W.cell? ((a.add (j * 25)).add 0)).getD (Value.tuple (Array.mk []))),AV.v ((W.cell? (Addr.mk (a.add (j * 25)).block ((a.add (j * 25)).off + 1) none)).getD (Value.tuple (Array.mk []))),AV.v ((W.cell? (Addr.mk (a.add (j * 25)).block ((a.add (j * 25)).off + 2) none)).getD (Value.tuple (Array.mk []))),AV.v ((W.cell? (Addr.mk (a.add (j * 25)).block ((a.add (j * 25)).off + 3) none)).getD (Value.tuple (Array.mk []))),AV.v ((W.cell? (Addr.mk (a.add (j * 25)).block ((a.add (j * 25)).off + 4) none)).getD (Value.tuple (Array.mk []))),AV.v ((W.cell? (Addr.mk (a.add (j * 25)).block ((a.add (j * 25)).off + 5) none)).getD (Value.tuple (Array.mk []))),AV.v ((W.cell? (Addr.mk (a.add (j * 25)).block ((a.add (j * 25)).off + 6) none)).getD (Value.tuple (Array.mk []))),AV.v ((W.cell? (Addr.mk (a.add (j * 25)).block ((a.add (j * 25)).off + 7) none)).getD (Value.tuple (Array.mk []))),AV.v ((W.cell? (Addr.mk (a.add (j * 25)).block ((a.add (j * 25)).off + 8) none)).getD (Value.tuple (Array.mk []))),AV.v ((W.cell? (Addr.mk (a.add (j * 25)).block ((a.add (j * 25)).off + 9) none)).getD (Value.tuple (Array.mk []))),AV.v ((W.cell? (Addr.mk (a.add (j * 25)).block ((a.add (j * 25)).off + 10) none)).getD (Value.tuple (Array.mk []))),AV.v ((W.cell? (Addr.mk (a.add (j * 25)).block ((a.add (j * 25)).off + 11) none)).getD (Value.tuple (Array.mk []))),AV.v ((W.cell? (Addr.mk (a.add (j * 25)).block ((a.add (j * 25)).off + 12) none)).getD (Value.tuple (Array.mk []))),AV.v ((W.cell? (Addr.mk (a.add (j * 25)).block ((a.add (j * 25)).off + 13) none)).getD (Value.tuple (Array.mk []))),AV.v ((W.cell? (Addr.mk (a.add (j * 25)).block ((a.add (j * 25)).off + 14) none)).getD (Value.tuple (Array.mk []))),AV.v ((W.cell? (Addr.mk (a.add (j * 25)).block ((a.add (j * 25)).off + 15) none)).getD (Value.tuple (Array.mk []))),AV.v ((W.cell? (Addr.mk (a.add (j * 25)).block ((a.add (j * 25)).off + 16) none)).getD (Value.tuple (Array.mk []))),AV.v ((W.cell? (Addr.mk (a.add (j * 25)).block ((a.add (j * 25)).off + 17) none)).getD (Value.tuple (Array.mk []))),AV.v ((W.cell? (Addr.mk (a.add (j * 25)).block ((a.add (j * 25)).off + 18) none)).getD (Value.tuple (Array.mk []))),AV.v ((W.cell? (Addr.mk (a.add (j * 25)).block ((a.add (j * 25)).off + 19) none)).getD (Value.tuple (Array.mk []))),AV.v ((W.cell? (Addr.mk (a.add (j * 25)).block ((a.add (j * 25)).off + 20) none)).getD (Value.tuple (Array.mk []))),AV.v ((W.cell? (Addr.mk (a.add (j * 25)).block ((a.add (j * 25)).off + 21) none)).getD (Value.tuple (Array.mk []))),AV.v ((W.cell? (Addr.mk (a.add (j * 25)).block ((a.add (j * 25)).off + 22) none)).getD (Value.tuple (Array.mk []))),AV.v ((W.cell? (Addr.mk (a.add (j * 25)).block ((a.add (j * 25)).off + 23) none)).getD (Value.tuple (Array.mk []))),AV.v ((W.cell? (Addr.mk (a.add (j * 25)).block ((a.add (j * 25)).off + 24) none)).getD (Value.tuple (Array.mk [])))] = [AV.v (Value.int IntKind.i64 (AV.v ((W.cell? ((a.add (j * 25)).add 0)).getD (Value.tuple (Array.mk [])))).intOf),AV.v (Value.int IntKind.i64 (AV.v ((W.cell? (Addr.mk (a.add (j * 25)).block ((a.add (j * 25)).off + 1) none)).getD (Value.tuple (Array.mk [])))).intOf),AV.v (Value.int IntKind.i64 (AV.v ((W.cell? (Addr.mk (a.add (j * 25)).block ((a.add (j * 25)).off + 2) none)).getD (Value.tuple (Array.mk [])))).intOf),AV.v (Value.int IntKind.i64 (AV.v ((W.cell? (Addr.mk (a.add (j * 25)).block ((a.add (j * 25)).off + 3) none)).getD (Value.tuple (Array.mk [])))).intOf),AV.v (Value.string (AV.v ((W.cell? (Addr.mk (a.add (j * 25)).block ((a.add (j * 25)).off + 4) none)).getD (Value.tuple (Array.mk [])))).strOf),AV.v (Value.string (AV.v ((W.cell? (Addr.mk (a.add (j * 25)).block ((a.add (j * 25)).off + 5) none)).getD (Value.tuple (Array.mk [])))).strOf),AV.v (Value.int IntKind.i64 (AV.v ((W.cell? (Addr.mk (a.add (j * 25)).block ((a.add (j * 25)).off + 6) none)).getD (Value.tuple (Array.mk [])))).intOf),AV.v (Value.string (AV.v ((W.cell? (Addr.mk (a.add (j * 25)).block ((a.add (j * 25)).off + 7) none)).getD (Value.tuple (Array.mk [])))).strOf),AV.v (Value.string (AV.v ((W.cell? (Addr.mk (a.add (j * 25)).block ((a.add (j * 25)).off + 8) none)).getD (Value.tuple (Array.mk [])))).strOf),AV.v ((W.cell? (Addr.mk (a.add (j * 25)).block ((a.add (j * 25)).off + 9) none)).getD (Value.tuple (Array.mk []))),AV.v (Value.int IntKind.i64 (AV.v ((W.cell? (Addr.mk (a.add (j * 25)).block ((a.add (j * 25)).off + 10) none)).getD (Value.tuple (Array.mk [])))).intOf),AV.v (Value.int IntKind.i64 (AV.v ((W.cell? (Addr.mk (a.add (j * 25)).block ((a.add (j * 25)).off + 11) none)).getD (Value.tuple (Array.mk [])))).intOf),AV.v (Value.string (AV.v ((W.cell? (Addr.mk (a.add (j * 25)).block ((a.add (j * 25)).off + 12) none)).getD (Value.tuple (Array.mk [])))).strOf),AV.v (Value.string (AV.v ((W.cell? (Addr.mk (a.add (j * 25)).block ((a.add (j * 25)).off + 13) none)).getD (Value.tuple (Array.mk [])))).strOf),AV.v (Value.string (AV.v ((W.cell? (Addr.mk (a.add (j * 25)).block ((a.add (j * 25)).off + 14) none)).getD (Value.tuple (Array.mk [])))).strOf),AV.v (Value.string (AV.v ((W.cell? (Addr.mk (a.add (j * 25)).block ((a.add (j * 25)).off + 15) none)).getD (Value.tuple (Array.mk [])))).strOf),AV.v (Value.int IntKind.i64 (AV.v ((W.cell? (Addr.mk (a.add (j * 25)).block ((a.add (j * 25)).off + 16) none)).getD (Value.tuple (Array.mk [])))).intOf),AV.v (Value.string (AV.v ((W.cell? (Addr.mk (a.add (j * 25)).block ((a.add (j * 25)).off + 17) none)).getD (Value.tuple (Array.mk [])))).strOf),AV.v (Value.string (AV.v ((W.cell? (Addr.mk (a.add (j * 25)).block ((a.add (j * 25)).off + 18) none)).getD (Value.tuple (Array.mk [])))).strOf),AV.v (Value.string (AV.v ((W.cell? (Addr.mk (a.add (j * 25)).block ((a.add (j * 25)).off + 19) none)).getD (Value.tuple (Array.mk [])))).strOf),AV.v (Value.int IntKind.i64 (AV.v ((W.cell? (Addr.mk (a.add (j * 25)).block ((a.add (j * 25)).off + 20) none)).getD (Value.tuple (Array.mk [])))).intOf),AV.v (Value.int IntKind.i64 (AV.v ((W.cell? (Addr.mk (a.add (j * 25)).block ((a.add (j * 25)).off + 21) none)).getD (Value.tuple (Array.mk [])))).intOf),AV.v ((W.cell? (Addr.mk (a.add (j * 25)).block ((a.add (j * 25)).off + 22) none)).getD (Value.tuple (Array.mk []))),AV.v (Value.bool (AV.v ((W.cell? (Addr.mk (a.add (j * 25)).block ((a.add (j * 25)).off + 23) none)).getD (Value.tuple (Array.mk [])))).boolOf),AV.v (Value.bool (AV.v ((W.cell? (Addr.mk (a.add (j * 25)).block ((a.add (j * 25)).off + 24) none)).getD (Value.tuple (Array.mk [])))).boolOf)])).a (f' (Wk (AV.agg [AV.v (Value.int IntKind.i64 (AV.v ((W.cell? ((a.add (j * 25)).add 0)).getD (Value.tuple (Array.mk [])))).intOf),AV.v (Value.int IntKind.i64 (AV.v ((W.cell? (Addr.mk (a.add (j * 25)).block ((a.add (j * 25)).off + 1) none)).getD (Value.tuple (Array.mk [])))).intOf),AV.v (Value.int IntKind.i64 (AV.v ((W.cell? (Addr.mk (a.add (j * 25)).block ((a.add (j * 25)).off + 2) none)).getD (Value.tuple (Array.mk [])))).intOf),AV.v (Value.int IntKind.i64 (AV.v ((W.cell? (Addr.mk (a.add (j * 25)).block ((a.add (j * 25)).off + 3) none)).getD (Value.tuple (Array.mk [])))).intOf),AV.v (Value.string (AV.v ((W.cell? (Addr.mk (a.add (j * 25)).block ((a.add (j * 25)).off + 4) none)).getD (Value.tuple (Array.mk [])))).strOf),AV.v (Value.string (AV.v ((W.cell? (Addr.mk (a.add (j * 25)).block ((a.add (j * 25)).off + 5) none)).getD (Value.tuple (Array.mk [])))).strOf),AV.v (Value.int IntKind.i64 (AV.v ((W.cell? (Addr.mk (a.add (j * 25)).block ((a.add (j * 25)).off + 6) none)).getD (Value.tuple (Array.mk [])))).intOf),AV.v (Value.string (AV.v ((W.cell? (Addr.mk (a.add (j * 25)).block ((a.add (j * 25)).off + 7) none)).getD (Value.tuple (Array.mk [])))).strOf),AV.v (Value.string (AV.v ((W.cell? (Addr.mk (a.add (j * 25)).block ((a.add (j * 25)).off + 8) none)).getD (Value.tuple (Array.mk [])))).strOf),AV.v ((W.cell? (Addr.mk (a.add (j * 25)).block ((a.add (j * 25)).off + 9) none)).getD (Value.tuple (Array.mk []))),AV.v (Value.int IntKind.i64 (AV.v ((W.cell? (Addr.mk (a.add (j * 25)).block ((a.add (j * 25)).off + 10) none)).getD (Value.tuple (Array.mk [])))).intOf),AV.v (Value.int IntKind.i64 (AV.v ((W.cell? (Addr.mk (a.add (j * 25)).block ((a.add (j * 25)).off + 11) none)).getD (Value.tuple (Array.mk [])))).intOf),AV.v (Value.string (AV.v ((W.cell? (Addr.mk (a.add (j * 25)).block ((a.add (j * 25)).off + 12) none)).getD (Value.tuple (Array.mk [])))).strOf),AV.v (Value.string (AV.v ((W.cell? (Addr.mk (a.add (j * 25)).block ((a.add (j * 25)).off + 13) none)).getD (Value.tuple (Array.mk [])))).strOf),AV.v (Value.string (AV.v ((W.cell? (Addr.mk (a.add (j * 25)).block ((a.add (j * 25)).off + 14) none)).getD (Value.tuple (Array.mk [])))).strOf),AV.v (Value.string (AV.v ((W.cell? (Addr.mk (a.add (j * 25)).block ((a.add (j * 25)).off + 15) none)).getD (Value.tuple (Array.mk [])))).strOf),AV.v (Value.int IntKind.i64 (AV.v ((W.cell? (Addr.mk (a.add (j * 25)).block ((a.add (j * 25)).off + 16) none)).getD (Value.tuple (Array.mk [])))).intOf),AV.v (Value.string (AV.v ((W.cell? (Addr.mk (a.add (j * 25)).block ((a.add (j * 25)).off + 17) none)).getD (Value.tuple (Array.mk [])))).strOf),AV.v (Value.string (AV.v ((W.cell? (Addr.mk (a.add (j * 25)).block ((a.add (j * 25)).off + 18) none)).getD (Value.tuple (Array.mk [])))).strOf),AV.v (Value.string (AV.v ((W.cell? (Addr.mk (a.add (j * 25)).block ((a.add (j * 25)).off + 19) none)).getD (Value.tuple (Array.mk [])))).strOf),AV.v (Value.int IntKind.i64 (AV.v ((W.cell? (Addr.mk (a.add (j * 25)).block ((a.add (j * 25)).off + 20) none)).getD (Value.tuple (Array.mk [])))).intOf),AV.v (Value.int IntKind.i64 (AV.v ((W.cell? (Addr.mk (a.add (j * 25)).block ((a.add (j * 25)).off + 21) none)).getD (Value.tuple (Array.mk [])))).intOf),AV.v ((W.cell? (Addr.mk (a.add (j * 25)).block ((a.add (j * 25)).off + 22) none)).getD (Value.tuple (Array.mk []))),AV.v (Value.bool (AV.v ((W.cell? (Addr.mk (a.add (j * 25)).block ((a.add (j * 25)).off + 23) none)).getD (Value.tuple (Array.mk [])))).boolOf),AV.v (Value.bool (AV.v ((W.cell? (Addr.mk (a.add (j * 25)).block ((a.add (j * 25)).off + 24) none)).getD (Value.tuple (Array.mk [])))).boolOf)]) (AV.agg [z' e.sq,z' e.gh,z' e.bo,z' e.si,s' e.ex,s' e.ke,z' e.fl,s' e.ct,s' e.ce,AV.v (Value.slice e.ha (List.length e.f) e.hc),z' e.dm,z' e.pr,s' e.s1,s' e.s2,s' e.s3,s' e.s4,z' e.ts,s' e.s5,s' e.s6,s' e.s7,z' e.xp,z' e.pi,AV.v (Value.slice e.ta e.tr.length e.tc),b' e.du,b' e.re]))))).a (k12'.a ((k55' e).a (((Cnd.p True).a ((vw' [AV.ptr 2 0,AV.agg [z' e.sq,z' e.gh,z' e.bo,z' e.si,s' e.ex,s' e.ke,z' e.fl,s' e.ct,s' e.ce,AV.v (Value.slice e.ha (List.length e.f) e.hc),z' e.dm,z' e.pr,s' e.s1,s' e.s2,s' e.s3,s' e.s4,z' e.ts,s' e.s5,s' e.s6,s' e.s7,z' e.xp,z' e.pi,AV.v (Value.slice e.ta e.tr.length e.tc),b' e.du,b' e.re]]).a (f' (OW Q (AO.ren (nmP 2) Q))))).a ((k22' j).a k1')))))) := χ
theorem YY' (W : World) (sa : Option Addr) (n c : Nat) (Q : AO) (F : HP) : BI' [] (AN' [hf' fQB 7 0]) [] W fQB (AB' fQB 7) (tms 0 88 (aPu sa n c n)) [(2, Q)] [2, 1100] iPu F = VT.leaf (AX.exit 0,[AV.v (Value.slice sa n c),AV.ptr 2 0,AV.v (Value.slice sa n c),i' n,i' n],88) [some Q,none] 1100 ((k24' n).a k1') := χ
def aPo (sa : Option Addr) (n c j : Nat) : List (Nat × AV) := [(1, slV sa n c), (5, .ptr 2 0), (8, slR 3 n), (35, slV sa n c), (36, iv (Int.ofNat n)), (37, iv (Int.ofNat j))]
def iPo : List Nat := [1, 5, 8, 35, 36, 37]
def hPop (j : Nat) : AO' := AN' [ht' fQB 13 0, hf' fQB 15 1, (fQB, 17, 0, hv (iv (Int.ofNat (j + 1))))]
theorem e6' (sa : Option Addr) (n c j : Nat) (k : Kc) (Q Q' O : AO) (F : HP) : BI' [(fPop, cB [] (.tuple [aggU k, bv true]) Q Q')] (hPop j) [] default fQB (AB' fQB 13) (tms 0 88 (aPo sa n c j)) [(2, Q), (3, O)] [2, 3, 1100] iPo F = VT.leaf (AX.normal,[AV.v (Value.slice sa n c),AV.ptr 2 0,AV.slice 3 0 n 25 (Cp.lo n),AV.v (Value.slice sa n c),i' n,i' (j + 1)],88) [some (AO.ren (sgN (nmP 2) [] 0) Q'),some O,some (AO.cells [z' k.sq,z' k.gh,z' k.bo,z' k.si,s' k.ex,s' k.ke,z' k.fl,s' k.ct,s' k.ce,AV.un,z' k.dm,z' k.pr,s' k.s1,s' k.s2,s' k.s3,s' k.s4,z' k.ts,s' k.s5,s' k.s6,s' k.s7,z' k.xp,z' k.pi,AV.un,b' k.du,b' k.re] 82)] 1101 ((wb' (decide (Int.ofNat j < Int.ofNat n)) j').a (((Cnd.p True).a ((vw' [AV.ptr 2 0]).a (f' (OW Q (AO.ren (nmP 2) Q))))).a (k12'.a (h2' j k1')))) := χ
theorem YZ' (sa : Option Addr) (n c : Nat) (Q O : AO) (F : HP) : BI' [] (AN' [hf' fQB 13 0]) [] default fQB (AB' fQB 13) (tms 0 88 (aPo sa n c n)) [(2, Q), (3, O)] [2, 3, 1100] iPo F = VT.leaf (AX.exit 2,[AV.v (Value.slice sa n c),AV.ptr 2 0,AV.slice 3 0 n 25 (Cp.lo n),AV.v (Value.slice sa n c),i' n,i' n],88) [some Q,some O,none] 1100 ((k24' n).a k1') := χ
def aRe (n j : Nat) : List (Nat × AV) := [(5, .ptr 2 0), (8, slR 3 n), (61, slR 4 n), (62, iv (Int.ofNat n)), (63, iv (Int.ofNat j))]
def iRe : List Nat := [5, 8, 61, 62, 63]
def oRe (Q O : AO) (R : List Kc) : LH := [(2, Q), (3, O), (4, .cells (rowU R) tKc)]
def hRe (j : Nat) (k : Kc) : AO' := AN' [ht' fQB 22 0, (fQB, 23, 1, hv (aggU k)), hf' fQB 24 4, (fQB, 26, 0, hv (iv (Int.ofNat (j + 1))))]
theorem e4' (n j : Nat) (k : Kc) (R : List Kc) (Q Q' O : AO) (F : HP) : BI' [(JC', cB [iv k.sq] (bv true) Q Q')] (hRe j k) [] default fQB (AB' fQB 22) (tms 0 88 (aRe n j)) (oRe Q O R) [2, 3, 4, 1100] iRe F = VT.leaf (AX.normal,[AV.ptr 2 0,AV.slice 3 0 n 25 (Cp.lo n),AV.slice 4 0 n 25 (Cp.lo n),i' n,i' (j + 1)],88) [some (AO.ren (sgN (nmP 2) [] 0) Q'),some O,some (AO.cells (rowU R) 82),some (AO.cells [z' k.sq,z' k.gh,z' k.bo,z' k.si,s' k.ex,s' k.ke,z' k.fl,s' k.ct,s' k.ce,AV.un,z' k.dm,z' k.pr,s' k.s1,s' k.s2,s' k.s3,s' k.s4,z' k.ts,s' k.s5,s' k.s6,s' k.s7,z' k.xp,z' k.pi,AV.un,b' k.du,b' k.re] 82)] 1101 (h23' j n (((p' ((List.take 25 (List.drop (0 + j * 25) (rowU R))).length.beq 25 = true)).a ((p' (List.take 25 (List.drop (0 + j * 25) (rowU R)) = [AV.v (Value.int IntKind.i64 ((List.take 25 (List.drop (0 + j * 25) (rowU R))).getD 0 (u')).intOf),AV.v (Value.int IntKind.i64 ((List.take 25 (List.drop (0 + j * 25) (rowU R))).getD 1 (u')).intOf),AV.v (Value.int IntKind.i64 ((List.take 25 (List.drop (0 + j * 25) (rowU R))).getD 2 (u')).intOf),AV.v (Value.int IntKind.i64 ((List.take 25 (List.drop (0 + j * 25) (rowU R))).getD 3 (u')).intOf),AV.v (Value.string ((List.take 25 (List.drop (0 + j * 25) (rowU R))).getD 4 (u')).strOf),AV.v (Value.string ((List.take 25 (List.drop (0 + j * 25) (rowU R))).getD 5 (u')).strOf),AV.v (Value.int IntKind.i64 ((List.take 25 (List.drop (0 + j * 25) (rowU R))).getD 6 (u')).intOf),AV.v (Value.string ((List.take 25 (List.drop (0 + j * 25) (rowU R))).getD 7 (u')).strOf),AV.v (Value.string ((List.take 25 (List.drop (0 + j * 25) (rowU R))).getD 8 (u')).strOf),(List.take 25 (List.drop (0 + j * 25) (rowU R))).getD 9 (u'),AV.v (Value.int IntKind.i64 ((List.take 25 (List.drop (0 + j * 25) (rowU R))).getD 10 (u')).intOf),AV.v (Value.int IntKind.i64 ((List.take 25 (List.drop (0 + j * 25) (rowU R))).getD 11 (u')).intOf),AV.v (Value.string ((List.take 25 (List.drop (0 + j * 25) (rowU R))).getD 12 (u')).strOf),AV.v (Value.string ((List.take 25 (List.drop (0 + j * 25) (rowU R))).getD 13 (u')).strOf),AV.v (Value.string ((List.take 25 (List.drop (0 + j * 25) (rowU R))).getD 14 (u')).strOf),AV.v (Value.string ((List.take 25 (List.drop (0 + j * 25) (rowU R))).getD 15 (u')).strOf),AV.v (Value.int IntKind.i64 ((List.take 25 (List.drop (0 + j * 25) (rowU R))).getD 16 (u')).intOf),AV.v (Value.string ((List.take 25 (List.drop (0 + j * 25) (rowU R))).getD 17 (u')).strOf),AV.v (Value.string ((List.take 25 (List.drop (0 + j * 25) (rowU R))).getD 18 (u')).strOf),AV.v (Value.string ((List.take 25 (List.drop (0 + j * 25) (rowU R))).getD 19 (u')).strOf),AV.v (Value.int IntKind.i64 ((List.take 25 (List.drop (0 + j * 25) (rowU R))).getD 20 (u')).intOf),AV.v (Value.int IntKind.i64 ((List.take 25 (List.drop (0 + j * 25) (rowU R))).getD 21 (u')).intOf),(List.take 25 (List.drop (0 + j * 25) (rowU R))).getD 22 (u'),AV.v (Value.bool ((List.take 25 (List.drop (0 + j * 25) (rowU R))).getD 23 (u')).boolOf),AV.v (Value.bool ((List.take 25 (List.drop (0 + j * 25) (rowU R))).getD 24 (u')).boolOf)])).a (f' (Wk (AV.agg [AV.v (Value.int IntKind.i64 ((List.take 25 (List.drop (0 + j * 25) (rowU R))).getD 0 (u')).intOf),AV.v (Value.int IntKind.i64 ((List.take 25 (List.drop (0 + j * 25) (rowU R))).getD 1 (u')).intOf),AV.v (Value.int IntKind.i64 ((List.take 25 (List.drop (0 + j * 25) (rowU R))).getD 2 (u')).intOf),AV.v (Value.int IntKind.i64 ((List.take 25 (List.drop (0 + j * 25) (rowU R))).getD 3 (u')).intOf),AV.v (Value.string ((List.take 25 (List.drop (0 + j * 25) (rowU R))).getD 4 (u')).strOf),AV.v (Value.string ((List.take 25 (List.drop (0 + j * 25) (rowU R))).getD 5 (u')).strOf),AV.v (Value.int IntKind.i64 ((List.take 25 (List.drop (0 + j * 25) (rowU R))).getD 6 (u')).intOf),AV.v (Value.string ((List.take 25 (List.drop (0 + j * 25) (rowU R))).getD 7 (u')).strOf),AV.v (Value.string ((List.take 25 (List.drop (0 + j * 25) (rowU R))).getD 8 (u')).strOf),(List.take 25 (List.drop (0 + j * 25) (rowU R))).getD 9 (u'),AV.v (Value.int IntKind.i64 ((List.take 25 (List.drop (0 + j * 25) (rowU R))).getD 10 (u')).intOf),AV.v (Value.int IntKind.i64 ((List.take 25 (List.drop (0 + j * 25) (rowU R))).getD 11 (u')).intOf),AV.v (Value.string ((List.take 25 (List.drop (0 + j * 25) (rowU R))).getD 12 (u')).strOf),AV.v (Value.string ((List.take 25 (List.drop (0 + j * 25) (rowU R))).getD 13 (u')).strOf),AV.v (Value.string ((List.take 25 (List.drop (0 + j * 25) (rowU R))).getD 14 (u')).strOf),AV.v (Value.string ((List.take 25 (List.drop (0 + j * 25) (rowU R))).getD 15 (u')).strOf),AV.v (Value.int IntKind.i64 ((List.take 25 (List.drop (0 + j * 25) (rowU R))).getD 16 (u')).intOf),AV.v (Value.string ((List.take 25 (List.drop (0 + j * 25) (rowU R))).getD 17 (u')).strOf),AV.v (Value.string ((List.take 25 (List.drop (0 + j * 25) (rowU R))).getD 18 (u')).strOf),AV.v (Value.string ((List.take 25 (List.drop (0 + j * 25) (rowU R))).getD 19 (u')).strOf),AV.v (Value.int IntKind.i64 ((List.take 25 (List.drop (0 + j * 25) (rowU R))).getD 20 (u')).intOf),AV.v (Value.int IntKind.i64 ((List.take 25 (List.drop (0 + j * 25) (rowU R))).getD 21 (u')).intOf),(List.take 25 (List.drop (0 + j * 25) (rowU R))).getD 22 (u'),AV.v (Value.bool ((List.take 25 (List.drop (0 + j * 25) (rowU R))).getD 23 (u')).boolOf),AV.v (Value.bool ((List.take 25 (List.drop (0 + j * 25) (rowU R))).getD 24 (u')).boolOf)]) (AV.agg [z' k.sq,z' k.gh,z' k.bo,z' k.si,s' k.ex,s' k.ke,z' k.fl,s' k.ct,s' k.ce,AV.un,z' k.dm,z' k.pr,s' k.s1,s' k.s2,s' k.s3,s' k.s4,z' k.ts,s' k.s5,s' k.s6,s' k.s7,z' k.xp,z' k.pi,AV.un,b' k.du,b' k.re]))))).a (k12'.a ((k72' k).a (((Cnd.p True).a ((vw' [AV.ptr 2 0,z' k.sq]).a (f' (OW Q (AO.ren (nmP 2) Q))))).a (h2' j k1')))))) := χ
theorem YX' (n : Nat) (R : List Kc) (Q O : AO) (F : HP) : BI' [] (AN' [hf' fQB 22 0]) [] default fQB (AB' fQB 22) (tms 0 88 (aRe n n)) (oRe Q O R) [2, 3, 4, 1100] iRe F = VT.leaf (AX.exit 4,[AV.ptr 2 0,AV.slice 3 0 n 25 (Cp.lo n),AV.slice 4 0 n 25 (Cp.lo n),i' n,i' n],88) [some Q,some O,some (AO.cells (rowU R) 82),none] 1100 ((k24' n).a k1') := χ
def aMk (n j : Nat) : List (Nat × AV) := [(8, slR 0 n), (15, slR 2 n), (76, iv (Int.ofNat n)), (77, iv (Int.ofNat j))]
def iMk : List Nat := [8, 15, 76, 77]
def oMk (V : List Value) (P : Mem -> Prop) (O : AO) : LH := [(0, .cells (vmap V) tKc), (1009, .any (frz P)), (2, O)]
theorem e7' (n j : Nat) (V : List Value) (P : Mem -> Prop) (O : AO) (F : HP) : BI' [] (AN' [ht' fQB 29 0, (fQB, 32, 0, hv (iv (Int.ofNat (j + 1))))]) [] default fQB (AB' fQB 29) (tms 0 88 (aMk n j)) (oMk V P O) [0, 1009, 2, 1100] iMk F = VT.leaf (AX.normal,[AV.slice 0 0 n 25 (Cp.lo n),AV.slice 2 0 n 25 (Cp.lo n),i' n,i' (j + 1)],88) [some (AO.cells (splice (vmap V) (0 + j * 25 + 24) [b' true]) 82),some (AO.any (frz P)),some O,none] 1100 (h23' j n ((f' ((0 + j * 25 + 24 + 1).ble (vmap V).length = true)).a ((k22' j).a k1'))) := χ
theorem Z0' (n : Nat) (V : List Value) (P : Mem -> Prop) (O : AO) (F : HP) : BI' [] (AN' [hf' fQB 29 0]) [] default fQB (AB' fQB 29) (tms 0 88 (aMk n n)) (oMk V P O) [0, 1009, 2, 1100] iMk F = VT.leaf (AX.exit 6,[AV.slice 0 0 n 25 (Cp.lo n),AV.slice 2 0 n 25 (Cp.lo n),i' n,i' n],88) [some (AO.cells (vmap V) 82),some (AO.any (frz P)),some O,none] 1100 ((k24' n).a k1') := χ
def g5 : List AV -> AP Nat := fun tmps => match getL tmps 5 with
 | .ptr i _ => .ret i
 | _ => .fail "queue"
def nm2 (i : Nat) : Nat -> Nat := fun k => match Nat.beq k 2 with
 | true => i
 | false => k
def g58 : List AV -> AP (Nat × Nat) := fun tmps => match getL tmps 5 with
 | .ptr i _ => match getL tmps 8 with
  | .slice k _ _ _ _ => .ret (i, k)
  | _ => .fail "row"
 | _ => .fail "queue"
def nm23 (q : Nat × Nat) : Nat -> Nat := fun k => match Nat.beq k 2 with
 | true => q.1
 | false => match Nat.beq k 3 with
  | true => q.2
  | false => k
def g586 : List AV -> AP (Nat × Nat × Nat) := fun tmps => match getL tmps 5 with
 | .ptr i _ => match getL tmps 8 with
  | .slice k _ _ _ _ => match getL tmps 61 with
   | .slice l _ _ _ _ => .ret (i, k, l)
   | _ => .fail "out"
  | _ => .fail "row"
 | _ => .fail "queue"
def Z1' (q : Nat × Nat × Nat) : Nat -> Nat := fun k => match Nat.beq k 2 with
 | true => q.1
 | false => match Nat.beq k 3 with
  | true => q.2.1
  | false => match Nat.beq k 4 with
   | true => q.2.2
   | false => k
def g85 : List AV -> AP (Nat × Nat) := fun tmps => match getL tmps 8 with
 | .slice i _ _ _ _ => match getL tmps 15 with
  | .slice k _ _ _ _ => .ret (i, k)
  | _ => .fail "row"
 | _ => .fail "row"
def nm02 (q : Nat × Nat) : Nat -> Nat := fun k => match Nat.beq k 0 with
 | true => q.1
 | false => match Nat.beq k 2 with
  | true => q.2
  | false => k
def lPu (sa : Option Addr) (n c : Nat) (Q Q' : AO) : List AV -> AP (AX × List AV) := mkL g5 (fun _ => True) nm2 (fun _ => tms 0 88 (aPu sa n c 0)) (fun _ => [(2, Q)]) (fun _ => .leaf (.exit 0) (tms 0 88 [(1, slV sa n c), (5, .ptr 2 0)]) [(2, Q')])
def lPo (sa : Option Addr) (n c : Nat) (Q Q' O : AO) : List AV -> AP (AX × List AV) := mkL g58 (fun _ => True) nm23 (fun _ => tms 0 88 (aPo sa n c 0)) (fun _ => [(2, Q), (3, O)]) (fun _ => .leaf (.exit 2) (tms 0 88 [(1, slV sa n c), (5, .ptr 2 0), (8, slR 3 n)]) [(2, Q'), (3, O)])
def lRe (n : Nat) (Q Q' O : AO) (R : List Kc) : List AV -> AP (AX × List AV) := mkL g586 (fun _ => True) Z1' (fun _ => tms 0 88 (aRe n 0)) (fun _ => oRe Q O R) (fun _ => .leaf (.exit 4) (tms 0 88 [(5, .ptr 2 0), (8, slR 3 n)]) [(2, Q'), (3, O)])
def lMk (n : Nat) (O O' P : AO) : List AV -> AP (AX × List AV) := mkL g85 (fun _ => True) nm02 (fun _ => tms 0 88 (aMk n 0)) (fun _ => [(0, O), (2, P)]) (fun _ => .leaf (.exit 6) (tms 0 88 [(8, slR 0 n), (15, slR 2 n)]) [(0, O'), (2, P)])
def cN0 (d : Nat) (c : Cf) : List AV -> Option (AP AV) := mkC (fun _ => .ret ()) (fun _ => True) (fun _ k => k) (fun _ => [.agg (cfA c)]) (fun _ => []) (fun _ => .leaf .ret [.ptr 1000 0] [(1000, qT d [] ⟨c, [], 0, [], [], 0, 0⟩)])
def gTg : List AV -> AP (Nat × List Int) := fun args => match args with
 | .ptr i _ :: _ => .read i fun o => match o with
  | .own m _ => match m with
   | .turns l => .ret (i, l)
   | _ => .fail "mark"
  | _ => .fail "mark"
 | _ => .fail "ready"
def nmTg (q : Nat × List Int) : Nat -> Nat := fun k => match k with | 0 => q.1 | k => k
def byO (a b : AO) : List Int -> AO
 | [] => a
 | _ :: _ => b
def cRd2 (n : Nat) (Q Q' O O' : AO) : List AV -> Option (AP AV) := mkC gTg (fun _ => True) nmTg (fun _ => [.ptr 0 0]) (fun q => [(0, byO Q Q' q.2)]) (fun q => .leaf .ret [slR 1000 n] [(0, byO Q Q' q.2), (1000, byO O O' q.2)])
def cO2 (n : Nat) (Q O : AO) : List AV -> Option (AP AV) := mkC gP1 (fun _ => True) nmP (fun _ => [.ptr 0 0]) (fun _ => [(0, Q)]) (fun _ => .leaf .ret [slR 1000 n] [(0, Q), (1000, O)])
def gS2 : List AV -> AP (Nat × Nat) := fun args => match args with
 | .slice i _ _ _ _ :: .slice k _ _ _ _ :: _ => .ret (i, k)
 | _ => .fail "same"
def cS2 (n : Nat) (O O' : AO) : List AV -> Option (AP AV) := mkC gS2 (fun _ => True) nm02 (fun _ => [slR 0 n, slR 2 n]) (fun _ => [(0, O), (2, O')]) (fun _ => .leaf .ret [bv true] [(0, O), (2, O')])
def hW : AO' := AN' [hf' fQB 1 1, hf' fQB 4 1, hf' fQB 19 1, hf' fQB 19 6]
abbrev k90' (q0 : Qs) (q1 : Nat) : Cnd := (ow' (AO.own (Md.turns []) (exHP (RQ q0) (qL q1))))
abbrev k91' (q0 : Nat) (q1 : Qs) (q2 : Nat) : Cnd := ((p' True).a ((vw' [AV.ptr q0 0]).a (f' (OW (AO.own (Md.turns []) (exHP (RQ q1) (qL q2))) (AO.own (Md.turns []) (exHP (RQ q1) (qL q2)))))))
abbrev k92' (q0 : Cf) : Cnd := ((p' True).a (f' (VW [AV.agg [z' q0.t1,z' q0.t2,z' q0.ml,z' q0.mp,s' q0.a1,s' q0.a2,s' q0.a3,b' q0.b1,b' q0.b2,b' q0.b3]] [AV.agg [z' q0.t1,z' q0.t2,z' q0.ml,z' q0.mp,s' q0.a1,s' q0.a2,s' q0.a3,b' q0.b1,b' q0.b2,b' q0.b3]])))
theorem oBW_eq (W : World) (d : Nat) (cf : Cf) (sa : Option Addr) (n c : Nat) (A1 A2 A3 : Qs) (OB OA OM : AO) (R : List Kc) (F : HP) : wRun [(Que.fSpeaks, Que.cSpeaks), (QW', cN0 d cf), (AJ', cRd2 n (qT d [] A1) (qT d [1] A3) OB OA), (JD', cB [] (.tuple [iv 0, iv (Int.ofNat n)]) (qT d [] A2) (qT d [] A2)), (fOut, cO2 n (qT d [] A2) (.cells (rowU R) tKc)), (fSk, cS2 n OM OA)] hW [(fQB, 7, AB' fQB 7, lPu sa n c (qT d [] ⟨cf, [], 0, [], [], 0, 0⟩) (qT d [] A1)), (fQB, 13, AB' fQB 13, lPo sa n c (qT d [] A1) (qT d [] A2) OB), (fQB, 22, AB' fQB 22, lRe n (qT d [] A2) (qT d [1] A3) OB R), (fQB, 29, AB' fQB 29, lMk n OB OM OA)] W fQB [.agg (cfA cf), slV sa n c] [] [] F = VT.leaf (b' true) [] 1105 (k52'.a (k31'.a ((k53' cf).a ((k92' cf).a (k31'.a ((p' ((fQB,7,AB' fQB 7,lPu sa n c (qT d [] (Qs.mk cf [] 0 [] [] 0 0)) (qT d [] A1)).snd.snd.fst = (fQB,7,AB' fQB 7,lPu sa n c (qT d [] (Qs.mk cf [] 0 [] [] 0 0)) (qT d [] A1)).snd.snd.fst)).a (k9'.a ((p' (VW (AV.agg [z' cf.t1,z' cf.t2,z' cf.ml,z' cf.mp,s' cf.a1,s' cf.a2,s' cf.a3,b' cf.b1,b' cf.b2,b' cf.b3]::AV.v (Value.slice sa n c)::AV.ptr 1100 0::u'::b' false::AV.ptr 1101 0::ru8 (u'::u'::u'::b' true::g'::AV.agg [z' cf.t1,z' cf.t2,z' cf.ml,z' cf.mp,s' cf.a1,s' cf.a2,s' cf.a3,b' cf.b1,b' cf.b2,b' cf.b3]::AV.ptr 1101 0::AV.ptr 1101 0::g'::AV.v (Value.slice sa n c)::z' ↑n::i' 0::ru16 (ru16 (ru16 (ru8 (ru4 (u'::u'::[]))))))) (a'::AV.v (Value.slice sa n c)::a'::a'::a'::AV.ptr 1101 0::ra16 (a'::AV.v (Value.slice sa n c)::i' n::i' 0::ra16 (ra16 (ra16 (ra8 (ra4 (a'::a'::[]))))))))).a ((ow' (AO.own (Md.turns []) (exHP (RQ (Qs.mk cf [] 0 [] [] 0 (Int.ofNat 0))) (qL d)))).a ((k91' 1101 A1 d).a ((p' ((fQB,13,AB' fQB 13,lPo sa n c (qT d [] A1) (qT d [] A2) OB).snd.snd.fst = (fQB,13,AB' fQB 13,lPo sa n c (qT d [] A1) (qT d [] A2) OB).snd.snd.fst)).a (k9'.a ((p' (VW (a'::AV.v (Value.slice sa n c)::a'::a'::a'::AV.ptr 1101 0::a'::a'::AV.slice 1102 0 n 25 (Cp.lo n)::ra16 (ra8 (AV.ptr 1101 0::AV.slice 1102 0 n 25 (Cp.lo n)::AV.v (Value.slice sa n c)::z' ↑n::i' 0::ra16 (ra16 (ra16 (a'::a'::[])))))) (a'::AV.v (Value.slice sa n c)::a'::a'::a'::AV.ptr 1101 0::a'::a'::AV.slice 1102 0 n 25 (Cp.lo n)::ra16 (ra8 (a'::a'::AV.v (Value.slice sa n c)::i' n::i' 0::ra16 (ra16 (ra16 (a'::a'::[])))))))).a ((k90' A1 d).a ((p' (OW (AO.ren (sgN (nmTg (1101,[])) [1000] 1102) (byO OB OA [])) (AO.ren (nm23 (1101,1102)) OB))).a ((k91' 1101 A2 d).a (k31'.a ((wb' (Int.ofNat n != ↑n) g').a ((k91' 1101 A2 d).a ((p' ((fQB,22,AB' fQB 22,lRe n (qT d [] A2) (qT d [1] A3) OB R).snd.snd.fst = (fQB,22,AB' fQB 22,lRe n (qT d [] A2) (qT d [1] A3) OB R).snd.snd.fst)).a (k9'.a ((p' (VW (a'::AV.v (Value.slice sa n c)::a'::a'::a'::AV.ptr 1101 0::a'::a'::AV.slice 1102 0 n 25 (Cp.lo n)::a'::a'::i' 0::i' n::ra16 (ra16 (a'::a'::AV.tuple [i' 0,i' n]::AV.ptr 1101 0::AV.tuple [i' 0,i' n]::i' 0::i' n::i' 0::g'::g'::i' n::AV.v (Value.slice sa n c)::z' ↑n::g'::g'::AV.ptr 1101 0::AV.slice 1103 0 n 25 (Cp.lo n)::z' ↑n::i' 0::ra16 (ra8 ([]))))) (ra4 (a'::AV.ptr 1101 0::a'::a'::AV.slice 1102 0 n 25 (Cp.lo n)::ra16 (ra16 (ra16 (ra4 (AV.slice 1103 0 n 25 (Cp.lo n)::i' n::i' 0::ra16 (ra8 ([])))))))))).a ((k90' A2 d).a ((p' (OW (AO.ren (sgN (nm23 (1101,1102)) [] 0) OB) (AO.ren (Z1' (1101,1102,1103)) OB))).a ((p' (OW (AO.cells (AV.rens (sgN (nmP 1101) [1000] 1103) (rowU R)) 82) (AO.cells (AV.rens (Z1' (1101,1102,1103)) (rowU R)) 82))).a (((Cnd.p True).a ((vw' [AV.ptr 1101 0]).a (f' (OW (AO.own (Md.turns [Int.ofNat 1]) (exHP (RQ A3) (qL d))) (AO.own (Md.turns [Int.ofNat 1]) (exHP (RQ A3) (qL d))))))).a ((p' ((fQB,29,AB' fQB 29,lMk n OB OM OA).snd.snd.fst = (fQB,29,AB' fQB 29,lMk n OB OM OA).snd.snd.fst)).a (k9'.a ((p' (VW (ra4 (a'::AV.ptr 1101 0::a'::a'::AV.slice 1102 0 n 25 (Cp.lo n)::ra4 (a'::a'::AV.slice 1104 0 n 25 (Cp.lo n)::ra16 (ra16 (ra16 (ra8 (a'::AV.ptr 1101 0::AV.slice 1104 0 n 25 (Cp.lo n)::AV.slice 1102 0 n 25 (Cp.lo n)::z' ↑n::i' 0::ra8 (a'::a'::[])))))))) (ra8 (AV.slice 1102 0 n 25 (Cp.lo n)::ra4 (a'::a'::AV.slice 1104 0 n 25 (Cp.lo n)::ra16 (ra16 (ra16 (ra8 (ra4 (i' n::i' 0::ra8 (a'::a'::[]))))))))))).a ((p' (OW (AO.ren (sgN (Z1' (1101,1102,1103)) [] 0) OB) (AO.ren (nm02 (1102,1104)) OB))).a ((p' (OW (AO.ren (sgN (nmTg (1101,[Int.ofNat 1])) [1000] 1104) (byO OB OA [Int.ofNat 1])) (AO.ren (nm02 (1102,1104)) OA))).a (((Cnd.p True).a ((vw' [AV.slice 1102 0 n 25 (Cp.lo n),AV.slice 1104 0 n 25 (Cp.lo n)]).a ((p' (OW (AO.ren (sgN (nm02 (1102,1104)) [] 0) OM) (AO.ren (nm02 (1102,1104)) OM))).a (f' (OW (AO.ren (sgN (nm02 (1102,1104)) [] 0) OA) (AO.ren (nm02 (1102,1104)) OA)))))).a k1')))))))))))))))))))))))))))))))) := χ
def cS0 : List AV -> Option (AP AV) := mkC (fun _ => .ret ()) (fun _ => True) (fun _ k => k) (fun _ => [nilS, nilS]) (fun _ => []) (fun _ => .leaf .ret [bv true] [])
def hZ : AO' := AN' [hf' fQB 1 1, hf' fQB 4 1, hf' fQB 7 0, hf' fQB 13 0, hf' fQB 22 0, hf' fQB 29 0, hf' fQB 19 1, hf' fQB 19 6]
abbrev h93' (q0 : Nat) (q1 : Cf) (q2 : Nat) (z : Cnd) : Cnd := ((f' (Wk (b' false) g')).a (((p' True).a ((vw' [AV.ptr q0 0]).a (f' (OW (AO.own (Md.turns []) (exHP (RQ (Qs.mk q1 [] 0 [] [] 0 (Int.ofNat 0))) (qL q2))) (AO.own (Md.turns []) (exHP (RQ (Qs.mk q1 [] 0 [] [] 0 (Int.ofNat 0))) (qL q2))))))).a z))
theorem oBZ_eq (W : World) (d : Nat) (cf : Cf) (sa : Option Addr) (c : Nat) (F : HP) : wRun [(Que.fSpeaks, Que.cSpeaks), (QW', cN0 d cf), (AJ', cB [] nilS (qT d [] ⟨cf, [], 0, [], [], 0, 0⟩) (qT d [] ⟨cf, [], 0, [], [], 0, 0⟩)), (JD', cB [] (.tuple [iv 0, iv 0]) (qT d [] ⟨cf, [], 0, [], [], 0, 0⟩) (qT d [] ⟨cf, [], 0, [], [], 0, 0⟩)), (fOut, cB [] nilS (qT d [] ⟨cf, [], 0, [], [], 0, 0⟩) (qT d [] ⟨cf, [], 0, [], [], 0, 0⟩)), (fSk, cS0)] hZ [] W fQB [.agg (cfA cf), slV sa 0 c] [] [] F = VT.leaf (b' true) [] 1102 (k52'.a (k31'.a ((k53' cf).a ((k92' cf).a (k31'.a (h93' 1101 cf d (h93' 1101 cf d (k31'.a (h93' 1101 cf d (h93' 1101 cf d (k31'.a (((Cnd.p True).a (f' (VW [e',e'] [e',e']))).a k1')))))))))))) := χ
end
theorem OQ' : ∀ (r : List Kc) (i : Nat), (rowC r).drop (i * 25) = rowC (r.drop i)
 | r, 0 => by simp
 | [], i + 1 => by simp [rowC]
 | c :: r, i + 1 => by
  have h2 : (i + 1) * 25 = c.cells.length + i * 25 := by rw [SP']; omega
  rw [GR', h2, List.drop_length_add_append, OQ' r i, List.drop_succ_cons]
theorem XX' {r : List Kc} {i j : Nat} {c : Kc} {u : Value} (hc : r[i]? = some c) (hu : c.cells[j]? = some u) : (rowC r)[i * 25 + j]? = some u := by
 obtain ⟨hi, hci⟩ := List.getElem?_eq_some_iff.1 hc; rw [<- List.getElem?_drop, OQ', List.drop_eq_getElem_cons hi, hci, GR', List.getElem?_append_left (List.getElem?_eq_some_iff.1 hu).1]; exact hu
theorem P3' {D : Nat -> Prop} {w : World} : ∀ a v, CB' D w a = some v -> w.cell? a = some v := fun a v h => (JB' h).2
theorem SX' (b x n : Nat) : (Addr.mk b x none).add n = Addr.mk b (x + n) none := by
 unfold Addr.add; split
 ·rename_i h; subst h; rfl
 ·rfl
theorem aH' {N : A4'} {k d : Nat} {R : List Kc} {y : Value} {D : Nat -> Prop} {w : World} (hb : R.length * 320 <= big) (hne : R ≠ []) (ho : OR N k (rwO d R) D w) (hy : VR N (slR k R.length) y) : ∃ la c r, r.map er = R /\ y = .slice la R.length c /\ RAt w.cell? d la r := by
 obtain ⟨l, x, c, h1, rfl, h3⟩ := IH' hy; obtain ⟨l', h1', h0, r, hr, N0, D', k0, k1, k2, k3⟩ := ho; rw [h1] at h1'; cases h1'
 have hrl : r.length = R.length := by rw [<- hr, List.length_map]
 obtain ⟨l0, e0, o0, q⟩ := LR' (cs := rowC r) (e := 41) (k1 0 (.cells (vmap (rowC r)) tKc) rfl); have hp : PL d r (CB' (D' 1009) w) := (k1 1009 (.any (frz (PL d r))) rfl).1
 have hbl : l0.blk = l.blk := by rw [k0] at e0; cases e0; rfl
 refine ⟨_, _, r, hr, rfl, by rw [hrl]; exact hb, fun i e he => ⟨_, rfl, fun j u hu => ?_, (hp.get (List.mem_of_getElem? he)).mono P3'⟩⟩
 rw [h3 (List.length_pos_iff.2 hne), h0, SX', SX', Nat.zero_add]; have := q _ _ (XX' he hu); rw [hbl] at this; exact P3' _ _ this
theorem vrs2' {N : A4'} {x1 x2 : AV} {vargs : Array Value} (h : VRs N [x1, x2] vargs.toList) : ∃ y1 y2, VR N x1 y1 /\ VR N x2 y2 /\ vargs = #[y1, y2] := by
 simp only [VRs] at h; obtain ⟨y1, r1, h1, ⟨y2, r2, h2, rfl, rfl⟩, hl⟩ := h
 exact ⟨y1, y2, h1, h2, by cases vargs; simp_all⟩
theorem so_tri (W : World) (d : Nat) (R : List Kc) (n : Nat) (hn : n = R.length) (hb : R.length * 320 <= big) (hne : R ≠ []) : Tri Θ W fSk [slR 0 n, slR 2 n] [(0, rwO d R), (2, rwO d R)] (bv true) [(0, rwO d R), (2, rwO d R)] := by
 subst hn
 refine OG' (x := .bool true) fun W0 F N w vargs hF hNB r ha' => ?_
 obtain ⟨y1, y2, h1, h2, rfl⟩ := vrs2' ha'
 have hf1 : (AD' [(0, rwO d R), (2, rwO d R)]).find 0 = some (rwO d R) := by rw [A8' χ, getO, if_pos rfl]
 have hf2 : (AD' [(0, rwO d R), (2, rwO d R)]).find 2 = some (rwO d R) := by rw [A8' χ]; rfl
 obtain ⟨D1, hO1⟩ := r.obj hf1; obtain ⟨D2, hO2⟩ := r.obj hf2; obtain ⟨la, c1, r1, e1, rfl, hA⟩ := aH' hb hne hO1 h1; obtain ⟨lb, c2, r2, e2, rfl, hB⟩ := aH' hb hne hO2 h2
 have hl : r1.length = R.length := by rw [<- e1, List.length_map]
 have hS := aG' w d r1 r2 la lb c1 c2 hA hB (e2.trans e1.symm); rw [hl] at hS; exact VW' (args := [.slice la R.length c1, .slice lb R.length c2]) hS
theorem s0_tri (W : World) : Tri Θ W fSk [nilS, nilS] [] (bv true) [] :=
 aG' W 0 [] [] none none 0 0 ⟨Nat.zero_le _, fun i c h => by simp at h⟩ ⟨Nat.zero_le _, fun i c h => by simp at h⟩ rfl
open Rk (lO itA BZ' putL GZ' remK CH' JQ')
theorem KP' {W : World} {f : FuncId} {Ar : List AV} {v : AV} {d : Nat} {A A' : Qs} (l l' : List Int) (h : Tri Θ W f Ar [(0, qO d A)] v [(0, qO d A')]) : Tri Θ W f Ar [(0, qT d l A)] v [(0, qT d l' A')] :=
 Tri.pre (CH' (o' := qO d A) δ fun N i D w h => h) (Tri.post h (CH' (o' := qT d l' A') δ fun N i D w h => h))
theorem R8' {W : World} {f : FuncId} {A : List AV} {v : AV} {d : Nat} {l l' : List Int} {Q Q' : Qs} (h : Tri Θ W f (.ptr 0 0 :: A) [(0, qT d l Q)] v [(0, qT d l' Q')]) (hA : ∀ K, AV.cls K A) (hv : ∀ K, AV.cl K v) (F : HP) (hF : AP' W F) : C1OK Θ F f (cB A v (qT d l Q) (qT d l' Q')) :=
 BX' hF (fun _ => v) LI' (fun _ => rfl) (fun _ _ => h) fun _ => ⟨rfl, rfl, ⟨rfl, hA _⟩, A0' Ye A2', ⟨hv _, Ye⟩, A0' Ye A2'⟩
def C5' (c : Cf) (es : List Kc) : Qs := es.foldl (fun A e => T5' A (er e)) ⟨c, [], 0, [], [], 0, 0⟩
theorem KZ' (c : Cf) (es : List Kc) (e : Kc) : C5' c (es ++ [e]) = T5' (C5' c es) (er e) := by rw [C5', List.foldl_append]; rfl
theorem L0' (c : Cf) (es : List Kc) : ∀ j, j <= es.length -> BP (C5' c (es.take j)) j
 | 0, _ => by rw [List.take_zero]; exact BP.zero c
 | j + 1, h => by
  obtain ⟨e, he⟩ := BP' (l := es) (i := j) h; rw [D8' he, KZ']; exact (L0' c es j ω).push _
theorem pu_tri (W : World) (d : Nat) (cf : Cf) (sa : Option Addr) (cp : Nat) (es : List Kc) (h : RAt W.cell? d sa es) : LTri Θ W (AB' fQB 7) (tms 0 88 (aPu sa es.length cp 0)) [(2, qT d [] ⟨cf, [], 0, [], [], 0, 0⟩)] (.exit 0) (tms 0 88 [(1, slV sa es.length cp), (5, .ptr 2 0)]) [(2, qT d [] (C5' cf es))] := by
 have hbig : es.length * 320 <= 140737488351232 := h.1
 refine G5' (W := W) (g := fQB) (b := AB' fQB 7) (σ := {j : Nat // j <= es.length}) 88 (fun j => aPu sa es.length cp j.1) (fun j => [(2, qT d [] (C5' cf (es.take j.1)))]) (.exit 0) [(1, slV sa es.length cp), (5, .ptr 2 0)] [(2, qT d [] (C5' cf es))] (fun j => es.length - j.1) [2, 1100] iPu (by intro h; cases h) (fun _ => rfl) rfl ?_ ⟨0, Nat.zero_le _⟩
 rintro ⟨j, hj⟩; simp only
 by_cases h1 : j < es.length
 ·obtain ⟨e, hx⟩ := BP' h1; obtain ⟨a, rfl, q1, q2⟩ := h.2 j e hx; have hbp := L0' cf es j hj; have hT := XM' W d (C5' cf (es.take j)) e q2 (by unfold JQ'; rw [hbp.len]; omega) (by rw [hbp.lan]; omega) (by rw [hbp.lan]; omega); rw [<- KZ', <- D8' hx] at hT; have hcon := R8' (KP' [] [] hT) (fun K => ⟨JL' K e, Ye⟩) (fun K => trivial); have hw := BM' j ω; have e1 : decide (Int.ofNat j < Int.ofNat es.length) = true := ltT h1; have aA := f6' q1; obtain ⟨a0, a1, a2, a3, a4, a5, a6, a7, a8, a9, a10, a11, a12, a13, a14, a15, a16, a17, a18, a19, a20, a21, a22, a23, a24⟩ := c25 q1
  refine ⟨[(CI', cB [aggK e] (iv ((C5' cf (es.take j)).la + 1)) (qT d [] (C5' cf (es.take j))) (qT d [] (C5' cf (es.take (j + 1)))))], hPu j e, [], fun F hF => CR' (hcon F hF), fun _ _ => noL, fun F => ?_⟩
  refine Yj (e5' W a es.length cp j e ((C5' cf (es.take j)).la + 1) (qT d [] (C5' cf (es.take j))) (qT d [] (C5' cf (es.take (j + 1)))) F) ⟨⟨?_, rfl, .inl ⟨rfl, ⟨j + 1, h1⟩, BR' h1, [], by kernel_rfl, by kernel_rfl, ⟨Ya, Ya, Ya, Ya, Ya, Ye⟩, ⟨_, rfl, OW.of_eq rfl⟩, Ye⟩⟩⟩
  simp only [Cnd.holds, Nat.blt_eq, true_and, and_true, e1, h1, aA, a0, a1, a2, a3, a4, a5, a6, a7, a8, a9, a10, a11, a12, a13, a14, a15, a16, a17, a18, a19, a20, a21, a22, a23, a24, Option.getD_some, Option.isSome_some]; and_intros; all_goals exact Kb6'
 ·have hje : j = es.length := ω
  subst hje; rw [List.take_length]
  refine ⟨[], AN' [hf' fQB 7 0], [], fun _ _ => noC, fun _ _ => noL, fun F => ?_⟩
  refine Yj (YY' W sa es.length cp (qT d [] (C5' cf es)) F) ⟨⟨?_, rfl, .inr ⟨rfl, [], by kernel_rfl, by kernel_rfl, ⟨Ya, Ya, Ye⟩, ⟨_, rfl, Yc⟩, Ye⟩⟩⟩
  simp only [Cnd.holds, and_true]; exact AC' ltF
def DV' (A : Qs) : Nat -> Qs
 | 0 => A
 | j + 1 => match (DV' A j).L with
  | [] => DV' A j
  | x :: T => popA (DV' A j) x T
theorem OV' {A : Qs} {j : Nat} {x : It} {T : List It} (h : (DV' A j).L = x :: T) : DV' A (j + 1) = popA (DV' A j) x T := by
 rw [DV']; split
 ·rename_i h2; rw [h] at h2; cases h2
 ·rename_i h2; rw [h] at h2; cases h2; rfl
theorem QH' {B : Qs} {n : Nat} (hB : BP B n) : ∀ j, j <= n -> BO B (DV' B j) n j
 | 0, _ => hB.out0
 | j + 1, h => by
  have ih := QH' hB j ω
  have hl : (DV' B j).L.length = n - j := by rw [ih.L, List.length_drop, hB.len]
  cases hL : (DV' B j).L with
  | nil => rw [hL] at hl; simp at hl; omega
  | cons x T => rw [OV' hL]; exact ih.pop hL
theorem po_tri (d : Nat) (B : Qs) (n : Nat) (hB : BP B n) (hn : n * 320 <= 140737488351232) (sa : Option Addr) (cp : Nat) (O : AO) (hO : Self O) : LTri Θ default (AB' fQB 13) (tms 0 88 (aPo sa n cp 0)) [(2, qT d [] B), (3, O)] (.exit 2) (tms 0 88 [(1, slV sa n cp), (5, .ptr 2 0), (8, slR 3 n)]) [(2, qT d [] (DV' B n)), (3, O)] := by
 have hO1 : ∀ σ, AO.ren σ O = O := hO.1; refine G5' (W := default) (g := fQB) (b := AB' fQB 13) (σ := {j : Nat // j <= n}) 88 (fun j => aPo sa n cp j.1) (fun j => [(2, qT d [] (DV' B j.1)), (3, O)]) (.exit 2) [(1, slV sa n cp), (5, .ptr 2 0), (8, slR 3 n)] [(2, qT d [] (DV' B n)), (3, O)] (fun j => n - j.1) [2, 3, 1100] iPo (by intro h; cases h) (fun _ => rfl) rfl ?_ ⟨0, Nat.zero_le _⟩; rintro ⟨j, hj⟩; simp only
 by_cases h1 : j < n
 ·have ih := QH' hB j hj
  have hl : (DV' B j).L.length = n - j := by rw [ih.L, List.length_drop, hB.len]
  obtain ⟨⟨ins, hq, hil, hi⟩, _⟩ := ih
  cases hL : (DV' B j).L with
  | nil => rw [hL] at hl; simp at hl; omega
  | cons x T =>
   have hxL : x ∈ (DV' B j).L := by rw [hL]; exact List.mem_cons_self
   obtain ⟨c, hc⟩ := hq.look _ (hq.inL hxL); have hT := XN' d (DV' B j) x T c hL hc (hq.ldj x hxL); rw [<- OV' hL] at hT; have hcon := R8' (KP' [] [] hT) (fun K => trivial) (fun K => ⟨I9' c trivial trivial, Ye, Ye⟩); have hw := BM' j ω; have e1 : decide (Int.ofNat j < Int.ofNat n) = true := ltT h1
   refine ⟨[(fPop, cB [] (.tuple [aggU c, bv true]) (qT d [] (DV' B j)) (qT d [] (DV' B (j + 1))))], hPop j, [], fun F hF => CR' (hcon F hF), fun _ _ => noL, fun F => ?_⟩
   refine Yj (e6' sa n cp j c (qT d [] (DV' B j)) (qT d [] (DV' B (j + 1))) O F) ⟨⟨?_, rfl, .inl ⟨rfl, ⟨j + 1, h1⟩, BR' h1, [], by kernel_rfl, by kernel_rfl, ⟨Ya, Ya, Ya, Ya, Ya, Ya, Ye⟩, ⟨_, rfl, OW.of_eq rfl⟩, ⟨_, rfl, OW.of_eq (hO1 _).symm⟩, Ye⟩⟩⟩
   simp only [Cnd.holds, Nat.blt_eq, true_and, and_true, e1]; and_intros; all_goals exact Kb6'
 ·have hje : j = n := ω
  subst hje
  refine ⟨[], AN' [hf' fQB 13 0], [], fun _ _ => noC, fun _ _ => noL, fun F => ?_⟩
  refine Yj (YZ' sa j cp (qT d [] (DV' B j)) O F) ⟨⟨?_, rfl, .inr ⟨rfl, [], by kernel_rfl, by kernel_rfl, ⟨Ya, Ya, Ya, Ye⟩, ⟨_, rfl, Yc⟩, ⟨_, rfl, OW.of_eq (hO1 _).symm⟩, Ye⟩⟩⟩
  simp only [Cnd.holds, and_true]; exact AC' ltF
def retK (A : Qs) (k : Int) : Qs := CV' (GN' A (cAt A k).sq) { cAt A k with re := true }
theorem QE' {B A : Qs} {n : Nat} (hB : BP B n) (h0 : BR B A n (fun _ => false) n) (ks : List Int) (hk : ∀ k ∈ ks, k ∈ B.L.map (·.b)) (hnd : ks.Nodup) : ∀ j, j <= ks.length -> BR B ((ks.take j).foldl retK A) n (fun i => decide (i ∈ ks.take j)) (n + j)
 | 0, _ => by
  have e : (fun i => decide (i ∈ ks.take 0)) = fun _ : Int => false := by funext i; simp
  rw [e]; exact h0
 | j + 1, h => by
  obtain ⟨k, hkk⟩ := BP' (l := ks) (i := j) h; have ih := QE' hB h0 ks hk hnd j ω; have hmem := List.mem_of_getElem? hkk
  have hno : k ∉ ks.take j := fun e => by
   have h2 := hnd; rw [<- List.take_append_drop j ks, List.nodup_append] at h2; obtain ⟨hj, hke⟩ := List.getElem?_eq_some_iff.1 hkk; exact h2.2.2 _ e _ (by rw [List.drop_eq_getElem_cons hj, hke]; exact List.mem_cons_self) rfl
  obtain ⟨c, hs, ho, hc, hr⟩ := ih.ret hB (hk k hmem) (decide_eq_false hno)
  have hcA : cAt ((ks.take j).foldl retK A) k = c := by rw [cAt, <- hs, hc]; rfl
  rw [D8' hkk, List.foldl_append]
  have e : (fun i => decide (i ∈ ks.take j ++ [k])) = fun i => decide (i ∈ ks.take j) || decide (i = k) := by funext i; simp
  rw [e]; show BR B (retK _ k) n _ (n + j + 1); rw [retK, hcA]; exact hr
theorem re_tri (d : Nat) (B A : Qs) (n : Nat) (hn0 : n * 320 <= 140737488351232) (hB : BP B n) (h0 : BR B A n (fun _ => false) n) (hn : (BE' A.o).length = n) (hk : ∀ k ∈ BE' A.o, k ∈ B.L.map (·.b)) (hnd : (BE' A.o).Nodup) (O : AO) (hO : Self O) :
  LTri Θ default (AB' fQB 22) (tms 0 88 (aRe n 0)) (oRe (qT d [] A) O (outA A)) (.exit 4) (tms 0 88 [(5, .ptr 2 0), (8, slR 3 n)]) [(2, qT d [1] ((BE' A.o).foldl retK A)), (3, O)] := by
 have hO1 : ∀ σ, AO.ren σ O = O := hO.1
 have hol : (outA A).length = n := by rw [outA, List.length_map, hn]
 refine EU' (W := default) (g := fQB) (b := AB' fQB 22) (σ := {j : Nat // j <= n}) 88 (fun j => aRe n j.1) (fun j => oRe (qT d [] (((BE' A.o).take j.1).foldl retK A)) O (outA A)) (.exit 4) [(5, .ptr 2 0), (8, slR 3 n)] [(2, qT d [1] ((BE' A.o).foldl retK A)), (3, O)] (fun j => n - j.1) [2, 3, 4, 1100] iRe (by intro h; cases h) (fun _ => rfl) ?_ ⟨0, Nat.zero_le _⟩
 rintro ⟨j, hj⟩; simp only
 by_cases h1 : j < n
 ·obtain ⟨k, hkk⟩ := BP' (l := BE' A.o) (i := j) ω; have ih := QE' hB h0 (BE' A.o) hk hnd j ω; have hmem := List.mem_of_getElem? hkk
  have hno : k ∉ (BE' A.o).take j := fun e => by
   have h2 := hnd; rw [<- List.take_append_drop j (BE' A.o), List.nodup_append] at h2; obtain ⟨hj, hke⟩ := List.getElem?_eq_some_iff.1 hkk; exact h2.2.2 _ e _ (by rw [List.drop_eq_getElem_cons hj, hke]; exact List.mem_cons_self) rfl
  have hos : (outA A)[j]? = some (cAt A k) := by rw [outA, List.getElem?_map, hkk]; rfl
  have hsq : (cAt A k).sq = k := by
   obtain ⟨⟨ins, hq, _, hi⟩, _⟩ := h0; obtain ⟨c, hc⟩ := hq.look k ((hi k).2 (hk k hmem)); rw [cAt, hc]; exact hq.key _ _ hc
  obtain ⟨c, hs, ho, hc, hr⟩ := ih.ret hB (hk k hmem) (decide_eq_false hno)
  have hcA : cAt (((BE' A.o).take j).foldl retK A) k = c := by rw [cAt, <- hs, hc]; rfl
  have hR : JQ' (((BE' A.o).take j).foldl retK A).L := by
   obtain ⟨⟨ins, hq, hil, _⟩, _⟩ := ih; have := hq.size; unfold JQ'; omega
  have hT := RS' d (((BE' A.o).take j).foldl retK A) c hR ho hc
  have eT : CV' (GN' (((BE' A.o).take j).foldl retK A) c.sq) { c with re := true } = ((BE' A.o).take (j + 1)).foldl retK A := by
   rw [D8' hkk, List.foldl_append]; show _ = retK _ k; rw [retK, hcA]
  rw [eT, hs, <- hsq] at hT; have hcon := R8' (KP' [] [] hT) (fun K => ⟨Ye, Ye⟩) (fun K => trivial); have hw := BM' j ω; have e1 : decide (Int.ofNat j < Int.ofNat n) = true := ltT h1
  generalize cAt A k = c0 at hos hcon
  have hsp : List.take 25 (List.drop (0 + j * 25) (rowU (outA A))) = uC c0 := by rw [Nat.zero_add]; exact UM' _ _ _ hos
  refine ⟨[(JC', cB [iv c0.sq] (bv true) (qT d [] (((BE' A.o).take j).foldl retK A)) (qT d [] (((BE' A.o).take (j + 1)).foldl retK A)))], hRe j c0, [], fun F hF => CR' (hcon F hF), fun _ _ => noL, fun F => ?_⟩
  refine Yj (e4' n j c0 (outA A) (qT d [] (((BE' A.o).take j).foldl retK A)) (qT d [] (((BE' A.o).take (j + 1)).foldl retK A)) O F) ⟨⟨?_, rfl, .inl ⟨rfl, aRe n (j + 1), oRe (qT d [] (((BE' A.o).take (j + 1)).foldl retK A)) O (outA A), [], rfl, ⟨χ, by kernel_rfl, ⟨Ya, Ya, Ya, Ya, Ya, Ye⟩, ⟨_, rfl, OW.of_eq rfl⟩, ⟨_, rfl, OW.of_eq (hO1 _).symm⟩, ⟨_, rfl, OW.of_eq (by simp only [AO.ren, ER'])⟩, Ye⟩, fun W0 F N ys w hst => ⟨⟨j + 1, h1⟩, BR' h1, hst⟩⟩⟩⟩
  simp only [Cnd.holds, Nat.blt_eq, true_and, and_true, e1, h1, hsp]; and_intros; all_goals exact Kb6'
 ·have hje : j = n := ω
  subst hje
  have hall : (BE' A.o).take j = BE' A.o := by rw [<- hn, List.take_length]
  rw [hall]
  refine ⟨[], AN' [hf' fQB 22 0], [], fun _ _ => noC, fun _ _ => noL, fun F => ?_⟩
  refine Yj (YX' j (outA A) (qT d [] ((BE' A.o).foldl retK A)) O F) ⟨⟨?_, rfl, .inr ⟨rfl, [(5, .ptr 2 0), (8, slR 3 j)], [(2, qT d [1] ((BE' A.o).foldl retK A)), (3, O)], [], rfl, ⟨χ, by kernel_rfl, ⟨Ya, Ya, Ye⟩, ⟨_, rfl, fun N i D w h => h⟩, ⟨_, rfl, OW.of_eq (hO1 _).symm⟩, Ye⟩, fun W0 F N ys w hst => hst⟩⟩⟩
  simp only [Cnd.holds, and_true]; exact AC' ltF
open Rk (lO itA BZ' putL GZ' remK CH' JQ')
open Int renaming ofNat -> o'
variable {O : AO} {d n : Nat}
def mkR (r : List Kc) (j : Nat) : List Kc := (r.take j).map reT ++ r.drop j
theorem eB' (r : List Kc) (j : Nat) : (mkR r j).length = r.length := by
 rw [mkR, List.length_append, List.length_map, List.length_take, List.length_drop]; omega
theorem ND' (r s : List Kc) : rowC (r ++ s) = rowC r ++ rowC s := by rw [rowC, List.flatMap_append]; rfl
theorem ZV' (c : Kc) : c.cells.take 24 ++ [.bool true] = (reT c).cells := rfl
theorem ZW' (c : Kc) : c.cells.take 24 ++ [.bool c.re] = c.cells := rfl
theorem UC' (X Y : List AV) (a b : AV) : splice (X ++ [a] ++ Y) X.length [b] = X ++ [b] ++ Y := by simp [splice]
theorem RT' (X Y : List Value) (u : Value) : vmap (X ++ [u] ++ Y) = vmap X ++ [.v u] ++ vmap Y := by rw [N3', N3']; rfl
theorem Z4' {r : List Kc} {j : Nat} {c : Kc} (hc : r[j]? = some c) : splice (vmap (rowC (mkR r j))) (0 + j * 25 + 24) [AV.v (Value.bool true)] = vmap (rowC (mkR r (j + 1))) := by
 obtain ⟨hj, hcj⟩ := List.getElem?_eq_some_iff.1 hc
 have hl : (rowC ((r.take j).map reT)).length = j * 25 := by rw [KD', List.length_map, List.length_take]; omega
 have e1 : rowC (mkR r j) = (rowC ((r.take j).map reT) ++ c.cells.take 24) ++ [.bool c.re] ++ rowC (r.drop (j + 1)) := by
  rw [mkR, ND', List.drop_eq_getElem_cons hj, hcj, GR', <- ZW' c]; simp only [List.append_assoc]; rfl
 have e2 : rowC (mkR r (j + 1)) = (rowC ((r.take j).map reT) ++ c.cells.take 24) ++ [.bool true] ++ rowC (r.drop (j + 1)) := by
  rw [mkR, ND', D8' hc, List.map_append, ND', List.map_cons, List.map_nil, GR', <- ZV' c]; simp only [List.append_assoc]; rfl
 have hl2 : (vmap (rowC ((r.take j).map reT) ++ c.cells.take 24)).length = 0 + j * 25 + 24 := by
  rw [N2', List.length_append, hl]; show j * 25 + 24 = _; omega
 rw [e1, e2, RT', RT', <- hl2]; exact UC' _ _ _ _
theorem mk_tri (d : Nat) (R : List Kc) (n : Nat) (hn : n = R.length) (hb : R.length * 320 <= big) (O : AO) (hO : Self O) : LTri Θ default (AB' fQB 29) (tms 0 88 (aMk n 0)) [(0, rwO d R), (2, O)] (.exit 6) (tms 0 88 [(8, slR 0 n), (15, slR 2 n)]) [(0, rwO d (R.map reT)), (2, O)] := by
 subst hn; have hO1 : ∀ σ, AO.ren σ O = O := hO.1; have hO2 : ∀ K, O.cl K := hO.2; have hlen := I4' hb δ
 refine LTri.open (R := fun r : List Kc => r.map er = R) (L := rwL d) (H0 := [(2, O)]) (fun r => χ) (fun r => A0' (HF' _ _) (A0' Ye A2')) (fun r => ⟨_, rfl⟩) fun r hr => ?_
 have hrl : r.length = R.length := by rw [<- hr, List.length_map]
 have hPL : ∀ C, PL d r C -> PL d (r.map reT) C := fun C h e he => by
  rw [asM, List.map_map] at he; obtain ⟨c, hc, rfl⟩ := List.mem_map.1 he; exact (show KAt C d c from h.get hc)
 refine EU' (W := default) (g := fQB) (b := AB' fQB 29) (σ := {j : Nat // j <= R.length}) 88 (fun j => aMk R.length j.1) (fun j => oMk (rowC (mkR r j.1)) (PL d r) O) (.exit 6) [(8, slR 0 R.length), (15, slR 2 R.length)] [(0, rwO d (R.map reT)), (2, O)] (fun j => R.length - j.1) [0, 1009, 2, 1100] iMk (by intro h; cases h) (fun _ => rfl) ?_ ⟨0, Nat.zero_le _⟩; rintro ⟨j, hj⟩; simp only
 by_cases h1 : j < R.length
 ·obtain ⟨c, hc⟩ := BP' (l := r) (i := j) ω; have hm := Z4' hc; have hw := BM' j ω; have e1 : decide (o' j < o' R.length) = true := ltT h1
  have k1 : (0 + j * 25 + 24 + 1).ble (vmap (rowC (mkR r j))).length = true := by rw [N2', KD', eB', Nat.ble_eq]; omega
  refine ⟨[], AN' [ht' fQB 29 0, (fQB, 32, 0, hv (iv (o' (j + 1))))], [], fun F hF => noC, fun _ _ => noL, fun F => ?_⟩
  refine Yj (e7' R.length j (rowC (mkR r j)) (PL d r) O F) ⟨⟨?_, rfl, .inl ⟨rfl, aMk R.length (j + 1), oMk (rowC (mkR r (j + 1))) (PL d r) O, [(1009, 1009)], rfl, ⟨χ, by kernel_rfl, ⟨Ya, Ya, Ya, Ya, Ye⟩, ⟨_, rfl, OW.of_eq (by rw [hm]; simp only [AO.ren, BN'])⟩, ⟨_, rfl, Yc⟩, ⟨_, rfl, OW.of_eq (hO1 _).symm⟩, Ye⟩, fun W0 F N ys w hst => ⟨⟨j + 1, h1⟩, BR' h1, hst⟩⟩⟩⟩
  simp only [Cnd.holds, Nat.blt_eq, true_and, and_true, e1, h1, k1]; and_intros; all_goals first | (with_reducible exact Ye) | (with_reducible exact rfl) | (with_reducible exact Ya) | (with_reducible exact Yb) | (with_reducible exact Yc) | (with_reducible exact AV' _) | (with_reducible assumption) | (with_reducible exact AY' hw) | exact AC' e1 | exact Kb10'
 ·have hje : j = R.length := ω
  subst hje
  have hall : mkR r R.length = r.map reT := by rw [mkR, <- hrl, List.take_length, List.drop_length, List.append_nil]
  rw [hall]
  refine ⟨[], AN' [hf' fQB 29 0], [], fun _ _ => noC, fun _ _ => noL, fun F => ?_⟩
  refine Yj (Z0' R.length (rowC (r.map reT)) (PL d r) O F) ⟨⟨?_, rfl, .inr ⟨rfl, [(8, slR 0 R.length), (15, slR 2 R.length)], [(0, .cells (vmap (rowC (r.map reT))) tKc), (1009, .any (frz (PL d (r.map reT)))), (2, O)], [(1009, 1009)], rfl, ⟨χ, by kernel_rfl, ⟨Ya, Ya, Ye⟩, ⟨_, rfl, OW.of_eq (by simp only [AO.ren, BN'])⟩, ⟨_, rfl, aO' (fun C h => hPL C h)⟩, ⟨_, rfl, OW.of_eq (hO1 _).symm⟩, Ye⟩, fun W0 F N ys w hst => Goes.shut (vs := tms 0 88 [(8, slR 0 R.length), (15, slR 2 R.length)]) (R := fun r : List Kc => r.map er = R.map reT) (L := rwL d) (m := .nothing) (H0 := [(2, O)]) (r.map reT) (by rw [<- hr, List.map_map, List.map_map]; rfl) χ ⟨_, _, rfl, rfl⟩ (H6' (A0' rfl (A0' rfl A2'))) (A0' (hO2 _) A2') _ _ _ _ _ hst⟩⟩⟩
  simp only [Cnd.holds, and_true]; exact AC' ltF
theorem lcB {F : HP} {f : FuncId} {r : Nat} {b : Code} {g : List AV -> AP (AX × List AV)} {l : LcL} (h : L1OK Θ F b g) (hl : ∀ x ∈ l, L1OK Θ F x.2.2.1 x.2.2.2) : ∀ x ∈ (f, r, b, g) :: l, L1OK Θ F x.2.2.1 x.2.2.2 := fun x hx => by
 rcases List.mem_cons.1 hx with rfl | hx
 ·exact h
 ·exact hl x hx
theorem g5_ro : ∀ args, RO (g5 args) := by
 intro args; unfold g5
 repeat' split
 all_goals exact Kb11'
theorem g58_ro : ∀ args, RO (g58 args) := by
 intro args; unfold g58
 repeat' split
 all_goals exact Kb11'
theorem eJ' : ∀ args, RO (g586 args) := by
 intro args; unfold g586
 repeat' split
 all_goals exact Kb11'
theorem g85_ro : ∀ args, RO (g85 args) := by
 intro args; unfold g85
 repeat' split
 all_goals exact Kb11'
theorem gS2_ro : ∀ args, RO (gS2 args) := by
 intro args; unfold gS2
 repeat' split
 all_goals exact Kb11'
theorem gTg_ro : ∀ args, RO (gTg args) := by
 intro args; unfold gTg; split
 ·refine RO.read _ _ fun o => ?_
  repeat' split
  all_goals exact Kb11'
 ·exact RO.fail _
theorem PK' {v : AV} {Q : AO} (hv : ∀ K, AV.cl K v) (hQ : ∀ K, Q.cl K := by exact fun _ => trivial) : Goes [v] [(0, Q), (1000, O)] [v] [(0, Q)] :=
 LH' rfl rfl (Yb) (fun i o h => by
  simp only [getO] at h ⊢
  by_cases e : i = 0
  ·rw [if_pos e] at h ⊢; exact h
  ·rw [if_neg e] at h; cases h) ⟨hv _, Ye⟩ (A0' (hQ _) A2')
theorem b5' (d : Nat) (c : Cf) (F : HP) : C1OK Θ F QW' (cN0 d c) :=
 BX' (W := default) B8' (fun _ => .ptr 1000 0) (fun _ => RO.ret _) (fun _ => rfl) (fun _ _ => Tri.post (Anew_tri d c) (CH' (o' := qT d [] ⟨c, [], 0, [], [], 0, 0⟩) δ fun N i D w h => h)) fun _ => ⟨rfl, rfl, ⟨⟨Ye, Ye, Ye, Ye, Ye, Ye, Ye, Ye, Ye, Ye, Ye⟩, Ye⟩, A2', ⟨rfl, Ye⟩, A0' Ye A2'⟩
theorem Q6' {f : FuncId} {Ar : List AV} {v : AV} {A : Qs} (l : List Int) (h : Tri Θ default f Ar [(0, qO d A)] v [(0, qO d A), (1000, O)]) : Tri Θ default f Ar [(0, qT d l A)] v [(0, qT d l A), (1000, O)] :=
 Tri.pre (CH' (o' := qO d A) δ fun N i D w h => h) (Tri.post h (Rk.goes_ow2 (o' := qT d l A) (fun _ => rfl) fun N i D w h => h))
theorem eX' {A A' : Qs} {O' : AO} (hO : ∀ K, O.cl K) (hO' : ∀ K, O'.cl K) (h : Tri Θ default AJ' [.ptr 0 0] [(0, qT d [] A)] (slR 1000 n) [(0, qT d [] A), (1000, O)]) (h' : Tri Θ default AJ' [.ptr 0 0] [(0, qT d [1] A')] (slR 1000 n) [(0, qT d [1] A'), (1000, O')]) (F : HP) : C1OK Θ F AJ' (cRd2 n (qT d [] A) (qT d [1] A') O O') :=
 BX' (W := default) B8' (fun _ => slR 1000 n) gTg_ro (fun _ => rfl) (fun q _ => by
  obtain ⟨i, l⟩ := q
  cases l with
  | nil => exact h
  | cons x l => exact h') fun q => by
   obtain ⟨i, l⟩ := q
   cases l with
   | nil => exact ⟨rfl, rfl, ⟨rfl, Ye⟩, A0' Ye A2', ⟨rfl, Ye⟩, A0' Ye (A0' (hO _) A2')⟩
   | cons x l => exact ⟨rfl, rfl, ⟨rfl, Ye⟩, A0' Ye A2', ⟨rfl, Ye⟩, A0' Ye (A0' (hO' _) A2')⟩
theorem cO2_ok {A : Qs} (hO : ∀ K, O.cl K) (h : Tri Θ default fOut [.ptr 0 0] [(0, qT d [] A)] (slR 1000 n) [(0, qT d [] A), (1000, O)]) (F : HP) : C1OK Θ F fOut (cO2 n (qT d [] A) O) :=
 BX' (W := default) B8' (fun _ => slR 1000 n) LI' (fun _ => rfl) (fun _ _ => h) fun _ => ⟨rfl, rfl, ⟨rfl, Ye⟩, A0' Ye A2', ⟨rfl, Ye⟩, A0' Ye (A0' (hO _) A2')⟩
theorem cS2_ok {W : World} {O' : AO} (hO : ∀ K, O.cl K) (hO' : ∀ K, O'.cl K) (h : Tri Θ W fSk [slR 0 n, slR 2 n] [(0, O), (2, O')] (bv true) [(0, O), (2, O')]) (F : HP) (hF : AP' W F) : C1OK Θ F fSk (cS2 n O O') :=
 BX' hF (fun _ => bv true) gS2_ro (fun _ => rfl) (fun _ _ => h) fun _ => ⟨rfl, rfl, ⟨rfl, rfl, Ye⟩, A0' (hO _) (A0' (hO' _) A2'), ⟨Ye, Ye⟩, A0' (hO _) (A0' (hO' _) A2')⟩
theorem cS0_ok {W : World} (F : HP) (hF : AP' W F) : C1OK Θ F fSk cS0 :=
 BX' hF (fun _ => bv true) (fun _ => RO.ret _) (fun _ => rfl) (fun _ _ => s0_tri W) fun _ => ⟨rfl, rfl, ⟨Ye, Ye, Ye⟩, A2', ⟨Ye, Ye⟩, A2'⟩
theorem fF' {A : Qs} {ins : List Int} {np : Nat} (h : QI A ins np) (hb : np * 320 <= 140737488351232) : OkO A.o A.ok := by
 refine ⟨h.oi, ?_, fun k hk => ?_⟩
 ·have := h.size; have := h.len; omega
 ·have hr := h.rng k (h.inO hk); have := h.la1; refine Bool.and_eq_true_iff.2 ⟨decide_eq_true (show (-9223372036854775808 : Int) <= k by omega), decide_eq_true (show k <= (9223372036854775807 : Int) by omega)⟩
theorem QB' (d : Nat) (R : List Kc) : Self (rwO d R) := ⟨fun _ => rfl, fun _ => trivial⟩
theorem ZC' (W : World) (d : Nat) (cf : Cf) (sa : Option Addr) (cp : Nat) : Tri Θ W fQB [.agg (cfA cf), slV sa 0 cp] [] (bv true) [] := by
 have hR := Aready d ⟨cf, [], 0, [], [], 0, 0⟩ (by show 0 * 320 <= _; omega) (fun x hx => by cases hx)
 have hO := Aout d ⟨cf, [], 0, [], [], 0, 0⟩ (by show 0 * 320 <= _; omega) ⟨MI.nil0 0, by show 0 * 8 <= _; omega, fun k hk => by cases hk⟩ (fun x hx => by cases hx)
 have hR1 : Tri Θ default AJ' [.ptr 0 0] [(0, qO d ⟨cf, [], 0, [], [], 0, 0⟩)] nilS [(0, qO d ⟨cf, [], 0, [], [], 0, 0⟩)] := Tri.post hR (PK' (fun K => trivial)); have hO1 : Tri Θ default fOut [.ptr 0 0] [(0, qO d ⟨cf, [], 0, [], [], 0, 0⟩)] nilS [(0, qO d ⟨cf, [], 0, [], [], 0, 0⟩)] := Tri.post hO (PK' (fun K => trivial)); have hC1 := XO' d ⟨cf, [], 0, [], [], 0, 0⟩
 have c1 := fun F => R8' (KP' [] [] hR1) (fun K => trivial) (fun K => trivial) F B8'
 have c2 := fun F => R8' (KP' [] [] hO1) (fun K => trivial) (fun K => trivial) F B8'
 have c3 := fun F => R8' (v := .tuple [iv 0, iv 0]) (KP' [] [] hC1) (fun K => trivial) (fun K => ⟨Ye, Ye, Ye⟩) F B8'
 refine AK' (W := W) (con := [(Que.fSpeaks, Que.cSpeaks), (QW', cN0 d cf), (AJ', cB [] nilS (qT d [] ⟨cf, [], 0, [], [], 0, 0⟩) (qT d [] ⟨cf, [], 0, [], [], 0, 0⟩)), (JD', cB [] (.tuple [iv 0, iv 0]) (qT d [] ⟨cf, [], 0, [], [], 0, 0⟩) (qT d [] ⟨cf, [], 0, [], [], 0, 0⟩)), (fOut, cB [] nilS (qT d [] ⟨cf, [], 0, [], [], 0, 0⟩) (qT d [] ⟨cf, [], 0, [], [], 0, 0⟩)), (fSk, cS0)]) (hints := hZ) (lc := []) [] rfl (fun F hF => CP' (Que.cSpeaks_ok F) (CP' (b5' d cf F) (CP' (c1 F) (CP' (c3 F) (CP' (c2 F) (CR' (cS0_ok F hF))))))) (fun F hF => noL) fun F => ?_
 refine Yj (oBZ_eq W d cf sa cp F) ⟨⟨?_, (B2' (vs' := [bv true]) (H' := []) [] rfl rfl (Yb) trivial).fits rfl⟩⟩
 simp only [Cnd.holds, Nat.blt_eq, true_and, and_true]; and_intros; all_goals first | (with_reducible exact Ye) | (with_reducible exact rfl) | (with_reducible exact Ya) | (with_reducible exact Yb) | (with_reducible exact Yc) | (with_reducible exact AV' _) | (with_reducible assumption) | exact AC' rfl | exact Kb10'
theorem ZD' (W : World) (d : Nat) (cf : Cf) (sa : Option Addr) (cp : Nat) (es : List Kc) (h : RAt W.cell? d sa es) (hne : es ≠ []) : Tri Θ W fQB [.agg (cfA cf), slV sa es.length cp] [] (bv true) [] := by
 have hn : es.length * 320 <= 140737488351232 := h.1; have hpos : 0 < es.length := List.length_pos_iff.2 hne
 have hB : BP (C5' cf es) es.length := by have := L0' cf es es.length (Yd); rwa [List.take_length] at this
 have hpu := pu_tri W d cf sa cp es h
 generalize C5' cf es = B at hB hpu
 generalize es.length = n at *
 have hLn := hB.len
 have hLne : B.L ≠ [] := fun e => by rw [e] at hLn; simp at hLn; omega
 have hpo := fun O hO => po_tri d B n hB hn sa cp O hO
 have hBO := QH' hB n (Yd); have hBR := hBO.ret0 hB
 generalize DV' B n = A at hpo hBO hBR
 obtain ⟨ins, hqA, hinl, hins⟩ := hBO.qi
 have hAL : A.L = [] := by rw [hBO.L, List.drop_eq_nil_of_le]; rw [hLn]; exact Yd
 have hAo : A.o.length = n := by have := hqA.size; rw [hAL] at this; simpa [hinl] using this
 have hkn : (BE' A.o).length = n := by rw [C7', hAo]
 have hkm : ∀ k ∈ BE' A.o, k ∈ B.L.map (·.b) := fun k hk => (hins k).1 (hqA.inO ((D6' A.o).mem_iff.1 hk))
 have hknd : (BE' A.o).Nodup := (D6' A.o).nodup_iff.2 hqA.oi.keys
 have hre := fun O hO => re_tri d B A n hn hB hBR hkn hkm hknd O hO
 have hE := QE' hB hBR (BE' A.o) hkm hknd n (by rw [hkn]; exact Yd)
 rw [show (BE' A.o).take n = BE' A.o by rw [<- hkn, List.take_length]] at hE
 generalize (BE' A.o).foldl retK A = E at hE hre
 have hEr : AM' E = (AM' B).map reT := hE.end hB fun k hk => by
  refine decide_eq_true ((D6' A.o).mem_iff.2 ?_); have h1 := (hqA.mem k).1 ((hins k).2 hk); rw [hAL] at h1; exact KG'.1 (h1.resolve_left (by simp))
 have hRB : (AM' B).length = n := by rw [AM', List.length_map, hLn]
 have hEL : E.L.length = n := by have e := congrArg List.length hEr; rwa [AM', List.length_map, List.length_map, hRB] at e
 have hELne : E.L ≠ [] := fun e => by rw [e] at hEL; simp at hEL; omega
 obtain ⟨⟨insB, hqB, _⟩, _⟩ := hB; obtain ⟨⟨insE, hqE, _⟩, _⟩ := hE; have r1 := XL' d B (by rw [hLn]; omega) (fun x hx => hqB.look _ (hqB.inL hx)) hLne; have r2 := XL' d E (by rw [hEL]; omega) (fun x hx => hqE.look _ (hqE.inL hx)) hELne; rw [hLn] at r1; rw [hEL, hEr] at r2
 have hol : (outA A).length = n := by rw [outA, List.length_map, hkn]
 have hone : outA A ≠ [] := fun e => by rw [e] at hol; simp at hol; omega
 have o1 := Aout d A (by rw [hAo]; omega) (fF' hqA hn) (fun k hk => hqA.look _ (hqA.inO hk)); rw [(GH' (k := 1000) hone).1, (GH' (k := 1000) hone).2, hol] at o1; have k1 := XO' d A
 have hRm : (AM' B).map reT ≠ [] := fun e => by have := congrArg List.length e; rw [List.length_map, hRB] at this; simp at this; omega
 have hmk := mk_tri d (AM' B) n hRB.symm (by rw [hRB]; exact hn) (rwO d ((AM' B).map reT)) (QB' _ _); have hso := so_tri W d ((AM' B).map reT) n (by rw [List.length_map, hRB]) (by rw [List.length_map, hRB]; exact hn) hRm
 have hAz : A.L.length = 0 := by rw [hAL]; rfl
 rw [hAz, hAo] at k1
 have d1 := fun F => eX' (O := rwO d (AM' B)) (O' := rwO d ((AM' B).map reT)) (fun K => trivial) (fun K => trivial) (Q6' [] r1) (Q6' [1] r2) F
 have d2 := fun F => cO2_ok (O := .cells (rowU (outA A)) tKc) (fun K => KK' _ _) (Q6' [] o1) F
 have d3 := fun F => R8' (v := .tuple [iv 0, iv (o' n)]) (KP' [] [] k1) (fun K => trivial) (fun K => ⟨Ye, Ye, Ye⟩) F B8'
 have d4 := fun F hF => cS2_ok (W := W) (O := rwO d ((AM' B).map reT)) (O' := rwO d ((AM' B).map reT)) (fun K => trivial) (fun K => trivial) hso F hF
 have hpo := hpo (rwO d (AM' B)) (QB' _ _); have hre := hre (rwO d (AM' B)) (QB' _ _)
 have l1 : ∀ F, AP' W F -> L1OK Θ F (AB' fQB 7) (lPu sa n cp (qT d [] ⟨cf, [], 0, [], [], 0, 0⟩) (qT d [] B)) := fun F hF =>
  E8' hF g5_ro (fun _ _ => hpu) fun _ => by
   simp only [RT.pick]; exact D1' rfl rfl (A0' Ye (A0' rfl (A0' Ye (A0' Ye (A0' Ye A2'))))) (A0' Ye A2') (A0' Ye (A0' rfl A2')) (A0' Ye A2')
 have l2 : ∀ F, L1OK Θ F (AB' fQB 13) (lPo sa n cp (qT d [] B) (qT d [] A) (rwO d (AM' B))) := fun F =>
  E8' (W := default) B8' g58_ro (fun _ _ => hpo) fun _ => by
   simp only [RT.pick]; exact D1' rfl rfl (A0' Ye (A0' rfl (A0' rfl (A0' Ye (A0' Ye (A0' Ye A2')))))) (A0' Ye (A0' Ye A2')) (A0' Ye (A0' rfl (A0' rfl A2'))) (A0' Ye (A0' Ye A2'))
 have l3 : ∀ F, L1OK Θ F (AB' fQB 22) (lRe n (qT d [] A) (qT d [1] E) (rwO d (AM' B)) (outA A)) := fun F =>
  E8' (W := default) B8' eJ' (fun _ _ => hre) fun _ => by
   simp only [RT.pick]; exact D1' rfl rfl (A0' rfl (A0' rfl (A0' rfl (A0' Ye (A0' Ye A2'))))) (A0' Ye (A0' Ye (A0' (KK' _ _) A2'))) (A0' rfl (A0' rfl A2')) (A0' Ye (A0' Ye A2'))
 have l4 : ∀ F, L1OK Θ F (AB' fQB 29) (lMk n (rwO d (AM' B)) (rwO d ((AM' B).map reT)) (rwO d ((AM' B).map reT))) := fun F =>
  E8' (W := default) B8' g85_ro (fun _ _ => hmk) fun _ => by
   simp only [RT.pick]; exact D1' rfl rfl (A0' rfl (A0' rfl (A0' Ye (A0' Ye A2')))) (A0' Ye (A0' Ye A2')) (A0' rfl (A0' rfl A2')) (A0' Ye (A0' Ye A2'))
 refine AK' (W := W) (con := [(Que.fSpeaks, Que.cSpeaks), (QW', cN0 d cf), (AJ', cRd2 n (qT d [] B) (qT d [1] E) (rwO d (AM' B)) (rwO d ((AM' B).map reT))), (JD', cB [] (.tuple [iv 0, iv (o' n)]) (qT d [] A) (qT d [] A)), (fOut, cO2 n (qT d [] A) (.cells (rowU (outA A)) tKc)), (fSk, cS2 n (rwO d ((AM' B).map reT)) (rwO d ((AM' B).map reT)))]) (hints := hW) (lc := [(fQB, 7, AB' fQB 7, lPu sa n cp (qT d [] ⟨cf, [], 0, [], [], 0, 0⟩) (qT d [] B)), (fQB, 13, AB' fQB 13, lPo sa n cp (qT d [] B) (qT d [] A) (rwO d (AM' B))), (fQB, 22, AB' fQB 22, lRe n (qT d [] A) (qT d [1] E) (rwO d (AM' B)) (outA A)), (fQB, 29, AB' fQB 29, lMk n (rwO d (AM' B)) (rwO d ((AM' B).map reT)) (rwO d ((AM' B).map reT)))]) [] rfl (fun F hF => CP' (Que.cSpeaks_ok F) (CP' (b5' d cf F) (CP' (d1 F) (CP' (d3 F) (CP' (d2 F) (CR' (d4 F hF))))))) (fun F hF => lcB (l1 F hF) (lcB (l2 F) (lcB (l3 F) (L3' (l4 F))))) fun F => ?_
 refine Yj (oBW_eq W d cf sa n cp B A E (rwO d (AM' B)) (rwO d ((AM' B).map reT)) (rwO d ((AM' B).map reT)) (outA A) F) ⟨⟨?_, (B2' (vs' := [bv true]) (H' := []) [] rfl rfl (Yb) trivial).fits rfl⟩⟩; clear l1 l2 l3 l4 d1 d2 d3 d4 hpo hre hpu hmk hso r1 r2 o1 k1
 simp only [Cnd.holds, Nat.blt_eq, true_and, and_true]; and_intros; all_goals first | (with_reducible exact Ye) | (with_reducible exact rfl) | (with_reducible exact Ya) | (with_reducible exact Yb) | (with_reducible exact Yc) | (with_reducible exact AV' _) | (with_reducible assumption) | exact AC' rfl | exact AC' (bne_self_eq_false _) | (refine OW.of_eq ?_; simp only [ER']; done) | exact Kb10'
theorem law_back (W : World) (d : Nat) (cf : Cf) (sa : Option Addr) (cp : Nat) (es : List Kc) (h : RAt W.cell? d sa es) : Tri Θ W fQB [.agg (cfA cf), slV sa es.length cp] [] (bv true) [] := by
 by_cases hne : es = []
 ·subst hne; exact ZC' W d cf sa cp
 ·exact ZD' W d cf sa cp es h hne
end Go.Proofs.Ytjjjchmkonnpfaa.Qb
