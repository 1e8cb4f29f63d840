/- Parts of the proof, merged. -/
import Derived.Test.YtdphpillcaajpaaGreatDoorWrs7
import Derived.Test.YtdphpillcaajpaaGreatDoorWrs4
import Derived.Test.YtdphpillcaajpaaGreatDoorWrs3
import Derived.Test.YtdphpillcaajpaaGreatDoorEngXWrs
import Derived.Test.YtdphpillcaajpaaGreatDoorEngDefer
import Derived.Test.YtdphpillcaajpaaGreatDoorProg
import Derived.KernelRfl
import Derived.Laws.Externs
import Derived.Test.YtdphpillcaajpaaGreatDoorMem
import Derived.Deep.Slices
import Derived.SizedLaws
import Derived.Test.YtdphpillcaajpaaGreatDoorRows
import Derived.Test.YtdphpillcaajpaaGreatDoorWrs5
import Derived.ProofKit
import Derived.OpenShut
import Derived.Deep.Fields
import Derived.Deep.DeepHandedRow
import Derived.Lay
set_option linter.unusedVariables false
set_option linter.unusedSimpArgs false
set_option maxRecDepth 100000
set_option linter.unusedSectionVars false
namespace Go.Proofs.YtdphpillcaajpaaGreatDoor.Js
open Go Go.RowKit Eng Kit
noncomputable section
abbrev fJc : Nat := 6
abbrev mdJ : Md := .nothing
def ownJ (d : Nat) (l : List Jv) : AO := .own mdJ fun b _ => Tree.frz fun C => LOf (JAt C d) C (some ⟨b, 0, none⟩) l
def sL5 (i n : Nat) : AV := .slice i 0 n 5 (.lo n)
def sS1 (i n : Nat) : AV := .slice i 0 n 1 (.lo n)
def encJ (r : Rj) : List Value := r.cells
def rJ (R : List Rj) : AO := .cells (rowV encJ R) tJs
def cJz (x : Rj) (ns : List ByteArray) : List AV → Option (AP AV) := mkC (fun _ => .ret ()) (fun _ => True) (fun _ k => k) (fun _ => [aggJ x]) (fun _ => []) (fun _ => .leaf .ret [.agg [iv x.k, iv x.n, sv x.t, .mt, sS1 1001 ns.length]] [(1001, rS ns)])
def cJn (x : Rj) (d : Nat) (l : List Jv) (ns : List ByteArray) : List AV → Option (AP AV) := mkC (fun _ => .ret ()) (fun _ => True) (fun _ k => k) (fun _ => [aggJ x]) (fun _ => []) (fun _ => .leaf .ret [.agg [iv x.k, iv x.n, sv x.t, sL5 1000 l.length, sS1 1001 ns.length]] [(1000, ownJ d l), (1001, rS ns)])
def zR : Rj := ⟨0, 0, nil0, none, 0, 0, none, 0, 0⟩
def oZJ : AO := .cells (vmap zR.cells) tJs
def oJc (r : Rj) (ns : List ByteArray) (x : AV) (R : List Rj) (P : Tree.Mem → Prop) : LH := [(1000, .cells (vmap r.cells) tJs), (1001, .cells [iv r.k, iv r.n, sv r.t, x, sS1 1007 ns.length] tJs), (1002, rJ R), (1003, .any (Tree.frz P)), (1004, oZJ), (1007, rS ns)]
def oJ0 (r : Rj) (ns : List ByteArray) : LH := [(1000, .cells (vmap r.cells) tJs), (1001, .cells [iv r.k, iv r.n, sv r.t, slV none 0 0, sS1 1007 ns.length] tJs), (1004, oZJ), (1007, rS ns)]
def aJc (i : Nat) : List (Nat × AV) := [(1, .ptr 1000 0), (2, .ptr 1004 0), (3, .ptr 1001 0), (4, iv (Int.ofNat i))]
def hJc (i : Nat) (x : Rj) : B8' := A9' [(fJc, 3, 4, hv (.lit true)), (fJc, 5, 6, hv (aggJ x)), (fJc, 4, 1, hv (iv (Int.ofNat (i + 1))))]
def hJcE : B8' := A9' [(fJc, 3, 4, hv (.lit false))]
def kJ : List Nat := [1000, 1001, 1002, 1003, 1004, 1007, 1100, 1101, 1102, 1103, 1104]
noncomputable section
abbrev k111' (q0 : Rj) : Cnd := (f' (Wk (b' (decide (Int.ofNat 0 < ↑q0.ll))) j'))
abbrev k112' (q0 : World) (q1 : Addr) (q2 : Rj) : Cnd := ((p' (([0,1,2,3,4].all fun j => (q0.cell? ((q1.add 0).add j)).isSome) = true)).a ((p' ([AV.v ((q0.cell? ((q1.add 0).add 0)).getD (Value.tuple (Array.mk []))),AV.v ((q0.cell? (Addr.mk (q1.add 0).block ((q1.add 0).off + 1) none)).getD (Value.tuple (Array.mk []))),AV.v ((q0.cell? (Addr.mk (q1.add 0).block ((q1.add 0).off + 2) none)).getD (Value.tuple (Array.mk []))),AV.v ((q0.cell? (Addr.mk (q1.add 0).block ((q1.add 0).off + 3) none)).getD (Value.tuple (Array.mk []))),AV.v ((q0.cell? (Addr.mk (q1.add 0).block ((q1.add 0).off + 4) none)).getD (Value.tuple (Array.mk [])))] = [AV.v (Value.int IntKind.i64 (AV.v ((q0.cell? ((q1.add 0).add 0)).getD (Value.tuple (Array.mk [])))).intOf),AV.v (Value.int IntKind.i64 (AV.v ((q0.cell? (Addr.mk (q1.add 0).block ((q1.add 0).off + 1) none)).getD (Value.tuple (Array.mk [])))).intOf),AV.v (Value.string (AV.v ((q0.cell? (Addr.mk (q1.add 0).block ((q1.add 0).off + 2) none)).getD (Value.tuple (Array.mk [])))).strOf),AV.v ((q0.cell? (Addr.mk (q1.add 0).block ((q1.add 0).off + 3) none)).getD (Value.tuple (Array.mk []))),AV.v ((q0.cell? (Addr.mk (q1.add 0).block ((q1.add 0).off + 4) none)).getD (Value.tuple (Array.mk [])))])).a (f' (Wk (AV.agg [AV.v (Value.int IntKind.i64 (AV.v ((q0.cell? ((q1.add 0).add 0)).getD (Value.tuple (Array.mk [])))).intOf),AV.v (Value.int IntKind.i64 (AV.v ((q0.cell? (Addr.mk (q1.add 0).block ((q1.add 0).off + 1) none)).getD (Value.tuple (Array.mk [])))).intOf),AV.v (Value.string (AV.v ((q0.cell? (Addr.mk (q1.add 0).block ((q1.add 0).off + 2) none)).getD (Value.tuple (Array.mk [])))).strOf),AV.v ((q0.cell? (Addr.mk (q1.add 0).block ((q1.add 0).off + 3) none)).getD (Value.tuple (Array.mk []))),AV.v ((q0.cell? (Addr.mk (q1.add 0).block ((q1.add 0).off + 4) none)).getD (Value.tuple (Array.mk [])))]) (AV.agg [z' q2.k,z' q2.n,s' q2.t,AV.v (Value.slice q2.la q2.ll q2.lc),AV.v (Value.slice q2.na q2.nl q2.nc)])))))
abbrev k113' : Cnd := ((p' (true = true)).a ((p' (true = true)).a ((p' (true = true)).a ((p' (true = true)).a ((p' (true = true)).a (f' (true = true)))))))
end
theorem bO' (W : World) (r : Rj) (ns : List ByteArray) (a : Addr) (x : Rj) (ms : List ByteArray) (F : HP) : AR' [(fJc, cJz x ms)] (hJc 0 x) [] W fJc (A2' fJc 3) (tms 0 35 (aJc 0)) (oJ0 { r with la := some a } ns) kJ [1, 2, 3, 4] F = VT.leaf (AX.normal,[AV.ptr 1000 0,AV.ptr 1004 0,AV.ptr 1001 0,i' 1],35) [some (AO.cells [z' r.k,z' r.n,s' r.t,AV.v (Value.slice (some a) r.ll r.lc),AV.v (Value.slice r.na r.nl r.nc)] 50),some (AO.cells [z' r.k,z' r.n,s' r.t,AV.slice 1102 0 1 5 (Cp.lo 1),AV.slice 1007 0 ns.length 1 (Cp.lo ns.length)] 50),none,none,some (AO.cells [i' 0,i' 0,s' nil0,e',e'] 50),some (AO.cells (rowV encS ns) 18),some (AO.cells (AV.rens (sgN (fun k => k) [1001] 1100) (rowV encS ms)) 18),some (AO.cells [z' x.k,z' x.n,s' x.t,AV.mt,AV.slice 1100 0 ms.length 1 (Cp.lo ms.length)] 50),some (AO.cells [z' x.k,z' x.n,s' x.t,AV.mt,AV.slice 1100 0 ms.length 1 (Cp.lo ms.length)] 50),none,none] 1103 (k8'.a ((k111' r).a (k8'.a (k8'.a ((f' (Nat.blt 0 r.ll = true)).a ((k112' W a x).a ((k103' x).a (k113'.a (k8'.a (k71'.a t')))))))))) := by kernel_rfl
theorem bP' (W : World) (r : Rj) (ns : List ByteArray) (a : Addr) (x : Rj) (d : Nat) (l : List Jv) (ms : List ByteArray) (F : HP) : AR' [(fJc, cJn x d l ms)] (hJc 0 x) [] W fJc (A2' fJc 3) (tms 0 35 (aJc 0)) (oJ0 { r with la := some a } ns) kJ [1, 2, 3, 4] F = VT.leaf (AX.normal,[AV.ptr 1000 0,AV.ptr 1004 0,AV.ptr 1001 0,i' 1],35) [some (AO.cells [z' r.k,z' r.n,s' r.t,AV.v (Value.slice (some a) r.ll r.lc),AV.v (Value.slice r.na r.nl r.nc)] 50),some (AO.cells [z' r.k,z' r.n,s' r.t,AV.slice 1103 0 1 5 (Cp.lo 1),AV.slice 1007 0 ns.length 1 (Cp.lo ns.length)] 50),none,none,some (AO.cells [i' 0,i' 0,s' nil0,e',e'] 50),some (AO.cells (rowV encS ns) 18),some (AO.own mdJ fun b x => Tree.frz fun C => LOf (JAt C d) C (some (Addr.mk b 0 none)) l),some (AO.cells (AV.rens (sgN (fun k => k) [1000,1001] 1100) (rowV encS ms)) 18),some (AO.cells [z' x.k,z' x.n,s' x.t,AV.slice 1100 0 l.length 5 (Cp.lo l.length),AV.slice 1101 0 ms.length 1 (Cp.lo ms.length)] 50),some (AO.cells [z' x.k,z' x.n,s' x.t,AV.slice 1100 0 l.length 5 (Cp.lo l.length),AV.slice 1101 0 ms.length 1 (Cp.lo ms.length)] 50),none] 1104 (k8'.a ((k111' r).a (k8'.a (k8'.a ((f' (Nat.blt 0 r.ll = true)).a ((k112' W a x).a ((k103' x).a (k113'.a (k8'.a (k71'.a t')))))))))) := by kernel_rfl
noncomputable section
abbrev k114' (q0 : Nat) (q1 : List Rj) : Cnd := ((p' (true = true)).a ((p' (true = true)).a ((p' (true = true)).a ((p' (true = true)).a ((p' ((0 + q0 * 5).ble (rowV encJ q1).length = true)).a ((p' (((q0 + 1) * 80).ble 140737488355328 = true)).a ((p' ((q0 + 1).ble 9223372036854775807 = true)).a (f' ((List.take (q0 * 5) (List.drop 0 (rowV encJ q1))).length.beq (q0 * 5) = true)))))))))
end
theorem bM' (W : World) (r : Rj) (ns : List ByteArray) (a : Addr) (x : Rj) (ms : List ByteArray) (m i : Nat) (R : List Rj) (P : Tree.Mem → Prop) (F : HP) : AR' [(fJc, cJz x ms)] (hJc i x) [] W fJc (A2' fJc 3) (tms 0 35 (aJc i)) (oJc { r with la := some a } ns (sL5 1002 m) R P) kJ [1, 2, 3, 4] F = VT.leaf (AX.normal,[AV.ptr 1000 0,AV.ptr 1004 0,AV.ptr 1001 0,i' (i + 1)],35) [some (AO.cells [z' r.k,z' r.n,s' r.t,AV.v (Value.slice (some a) r.ll r.lc),AV.v (Value.slice r.na r.nl r.nc)] 50),some (AO.cells [z' r.k,z' r.n,s' r.t,AV.slice 1102 0 (m + 1) 5 (Cp.lo (m + 1)),AV.slice 1007 0 ns.length 1 (Cp.lo ns.length)] 50),none,some (AO.any (Tree.frz P)),some (AO.cells [i' 0,i' 0,s' nil0,e',e'] 50),some (AO.cells (rowV encS ns) 18),some (AO.cells (AV.rens (sgN (fun k => k) [1001] 1100) (rowV encS ms)) 18),some (AO.cells [z' x.k,z' x.n,s' x.t,AV.mt,AV.slice 1100 0 ms.length 1 (Cp.lo ms.length)] 50),some (AO.cells (List.take (m * 5) (List.drop 0 (rowV encJ R)) ++ [z' x.k,z' x.n,s' x.t,AV.mt,AV.slice 1100 0 ms.length 1 (Cp.lo ms.length)]) 50),none,none] 1103 (k8'.a ((k57' i r).a (k8'.a (k8'.a ((k58' i r).a ((k59' W a i x).a ((k103' x).a ((k114' m R).a (k8'.a ((k7' i).a t')))))))))) := by kernel_rfl
theorem bN' (W : World) (r : Rj) (ns : List ByteArray) (a : Addr) (x : Rj) (d : Nat) (l : List Jv) (ms : List ByteArray) (m i : Nat) (R : List Rj) (P : Tree.Mem → Prop) (F : HP) : AR' [(fJc, cJn x d l ms)] (hJc i x) [] W fJc (A2' fJc 3) (tms 0 35 (aJc i)) (oJc { r with la := some a } ns (sL5 1002 m) R P) kJ [1, 2, 3, 4] F = VT.leaf (AX.normal,[AV.ptr 1000 0,AV.ptr 1004 0,AV.ptr 1001 0,i' (i + 1)],35) [some (AO.cells [z' r.k,z' r.n,s' r.t,AV.v (Value.slice (some a) r.ll r.lc),AV.v (Value.slice r.na r.nl r.nc)] 50),some (AO.cells [z' r.k,z' r.n,s' r.t,AV.slice 1103 0 (m + 1) 5 (Cp.lo (m + 1)),AV.slice 1007 0 ns.length 1 (Cp.lo ns.length)] 50),none,some (AO.any (Tree.frz P)),some (AO.cells [i' 0,i' 0,s' nil0,e',e'] 50),some (AO.cells (rowV encS ns) 18),some (AO.own mdJ fun b x => Tree.frz fun C => LOf (JAt C d) C (some (Addr.mk b 0 none)) l),some (AO.cells (AV.rens (sgN (fun k => k) [1000,1001] 1100) (rowV encS ms)) 18),some (AO.cells [z' x.k,z' x.n,s' x.t,AV.slice 1100 0 l.length 5 (Cp.lo l.length),AV.slice 1101 0 ms.length 1 (Cp.lo ms.length)] 50),some (AO.cells (List.take (m * 5) (List.drop 0 (rowV encJ R)) ++ [z' x.k,z' x.n,s' x.t,AV.slice 1100 0 l.length 5 (Cp.lo l.length),AV.slice 1101 0 ms.length 1 (Cp.lo ms.length)]) 50),none] 1104 (k8'.a ((k57' i r).a (k8'.a (k8'.a ((k58' i r).a ((k59' W a i x).a ((k103' x).a ((k114' m R).a (k8'.a ((k7' i).a t')))))))))) := by kernel_rfl
theorem bL' (W : World) (r : Rj) (ns : List ByteArray) (F : HP) : AR' [] hJcE [] W fJc (A2' fJc 3) (tms 0 35 (aJc r.ll)) (oJ0 r ns) kJ [1, 2, 3, 4] F = VT.leaf (AX.exit 0,[AV.ptr 1000 0,AV.ptr 1004 0,AV.ptr 1001 0,i' r.ll],35) [some (AO.cells [z' r.k,z' r.n,s' r.t,AV.v (Value.slice r.la r.ll r.lc),AV.v (Value.slice r.na r.nl r.nc)] 50),some (AO.cells [z' r.k,z' r.n,s' r.t,e',AV.slice 1007 0 ns.length 1 (Cp.lo ns.length)] 50),none,none,some (AO.cells [i' 0,i' 0,s' nil0,e',e'] 50),some (AO.cells (rowV encS ns) 18),none,none,none,none,none] 1100 (k8'.a ((k60' r).a t')) := by kernel_rfl
theorem bK' (W : World) (r : Rj) (ns : List ByteArray) (m : Nat) (R : List Rj) (P : Tree.Mem → Prop) (F : HP) : AR' [] hJcE [] W fJc (A2' fJc 3) (tms 0 35 (aJc r.ll)) (oJc r ns (sL5 1002 m) R P) kJ [1, 2, 3, 4] F = VT.leaf (AX.exit 0,[AV.ptr 1000 0,AV.ptr 1004 0,AV.ptr 1001 0,i' r.ll],35) [some (AO.cells [z' r.k,z' r.n,s' r.t,AV.v (Value.slice r.la r.ll r.lc),AV.v (Value.slice r.na r.nl r.nc)] 50),some (AO.cells [z' r.k,z' r.n,s' r.t,AV.slice 1002 0 m 5 (Cp.lo m),AV.slice 1007 0 ns.length 1 (Cp.lo ns.length)] 50),some (AO.cells (rowV encJ R) 50),some (AO.any (Tree.frz P)),some (AO.cells [i' 0,i' 0,s' nil0,e',e'] 50),some (AO.cells (rowV encS ns) 18),none,none,none,none,none] 1100 (k8'.a ((k60' r).a t')) := by kernel_rfl
def gJc : List AV → AP (Nat × Nat × Nat × Nat) := fun tmps => match getL tmps 1 with
 | .ptr a _ => match getL tmps 3 with
  | .ptr b _ => match getL tmps 2 with
   | .ptr c _ => .read b fun o => match o with
    | .cells [_, _, _, _, .slice k _ _ _ _] _ => .ret (a, b, c, k)
    | _ => .fail "copy value"
   | _ => .fail "copy value"
  | _ => .fail "copy value"
 | _ => .fail "copy value"
def nmJc (q : Nat × Nat × Nat × Nat) : Nat → Nat := fun k => match Nat.beq k 1000 with
 | true => q.1
 | false => match Nat.beq k 1001 with
  | true => q.2.1
  | false => match Nat.beq k 1004 with
   | true => q.2.2.1
   | false => match Nat.beq k 1007 with
    | true => q.2.2.2
    | false => k
def oJn (r : Rj) (ns : List ByteArray) (d : Nat) (l : List Jv) : LH := [(1000, .cells (vmap r.cells) tJs), (1001, .cells [iv r.k, iv r.n, sv r.t, sL5 1002 l.length, sS1 1007 ns.length] tJs), (1002, ownJ d l), (1004, oZJ), (1007, rS ns)]
def zJc : List (Nat × AV) := [(1, .ptr 1000 0), (2, .ptr 1004 0), (3, .ptr 1001 0)]
def lJz (r : Rj) (ns : List ByteArray) : List AV → AP (AX × List AV) := mkL gJc (fun _ => True) nmJc (fun _ => tms 0 35 (aJc 0)) (fun _ => oJ0 r ns) (fun _ => .leaf (.exit 0) (tms 0 35 zJc) (oJ0 r ns))
def lJn (r : Rj) (ns : List ByteArray) (d : Nat) (l : List Jv) : List AV → AP (AX × List AV) := mkL gJc (fun _ => True) nmJc (fun _ => tms 0 35 (aJc 0)) (fun _ => oJ0 r ns) (fun _ => .leaf (.exit 0) (tms 0 35 zJc) (oJn r ns d l))
def kF : List Nat := [1100, 1101, 1102, 1103, 1104, 1105, 1106, 1107, 1108, 1109, 1110]
noncomputable section
abbrev k115' (q0 : Nat) : Cnd := ((p' (0 = 0)).a (f' (Wk (AV.slice q0 0 0 1 (Cp.ex 0)) (AV.slice q0 0 0 1 (Cp.lo 0)))))
abbrev k116' (q0 : Rj) (q1 q2 q3 q4 : Nat) : Cnd := (p' (VW (AV.agg [z' q0.k,z' q0.n,s' q0.t,AV.v (Value.slice q0.la q0.ll q0.lc),AV.v (Value.slice none 0 q0.nc)]::AV.ptr q1 0::AV.ptr q2 0::AV.ptr q3 0::i' 0::AV.ptr q1 0::z' q0.k::AV.ptr q1 1::z' q0.n::AV.ptr q1 2::s' q0.t::AV.slice q4 0 0 1 (Cp.ex 0)::AV.ptr q1 4::AV.v (Value.slice none 0 q0.nc)::AV.slice q4 0 0 1 (Cp.lo 0)::AV.agg [z' q0.k,z' q0.n,s' q0.t,e',AV.slice q4 0 0 1 (Cp.lo 0)]::ru16 (u'::u'::u'::[])) (a'::AV.ptr q1 0::AV.ptr q2 0::AV.ptr q3 0::i' 0::ra16 (ra8 (ra4 (a'::a'::[]))))))
abbrev k117' (q0 : Rj) : Cnd := (p' (OW (AO.cells [z' q0.k,z' q0.n,s' q0.t,AV.v (Value.slice q0.la q0.ll q0.lc),AV.v (Value.slice none 0 q0.nc)] 50) (AO.cells [z' q0.k,z' q0.n,s' q0.t,AV.v (Value.slice q0.la q0.ll q0.lc),AV.v (Value.slice none 0 q0.nc)] 50)))
abbrev k118' (q0 : Rj) (q1 : Nat) : Cnd := (p' (OW (AO.cells [z' q0.k,z' q0.n,s' q0.t,e',AV.slice q1 0 0 1 (Cp.lo 0)] 50) (AO.cells [z' q0.k,z' q0.n,s' q0.t,e',AV.slice q1 0 0 1 (Cp.lo 0)] 50)))
abbrev k119' : Cnd := (p' (OW (AO.cells [i' 0,i' 0,s' y1',e',e'] 50) (AO.cells [i' 0,i' 0,s' nil0,e',e'] 50)))
abbrev k120' : Cnd := (p' (OW (AO.cells (rep [s' y1'] 0) 18) (AO.cells [] 18)))
abbrev k121' (q0 : Rj) (q1 : Nat) : Cnd := ((p' (true = true)).a (f' ([z' q0.k,z' q0.n,s' q0.t,e',AV.slice q1 0 0 1 (Cp.lo 0)] = [z' q0.k,z' q0.n,s' q0.t,e',AV.slice q1 0 0 1 (Cp.lo 0)])))
abbrev k122' : Cnd := (p' (true = true))
abbrev k123' (q0 : Rj) (q1 : Nat) : Cnd := (p' ([z' q0.k,z' q0.n,s' q0.t,e',AV.slice q1 0 0 1 (Cp.lo 0)] = [z' q0.k,z' q0.n,s' q0.t,e',AV.slice q1 0 0 1 (Cp.lo 0)]))
end
theorem bG' (W : World) (r : Rj) (F : HP) : wRun [] (A9' [(fJc, 1, 9, h0v (sS1 1102 0))]) [(fJc, 3, A2' fJc 3, lJz { r with na := none, nl := 0 } [])] W fJc [aggJ { r with na := none, nl := 0 }] [] kF F = VT.leaf (AV.agg [z' r.k,z' r.n,s' r.t,e',AV.slice 1107 0 0 1 (Cp.lo 0)]) [none,none,none,none,some (AO.cells [z' r.k,z' r.n,s' r.t,AV.v (Value.slice r.la r.ll r.lc),AV.v (Value.slice none 0 r.nc)] 50),some (AO.cells [z' r.k,z' r.n,s' r.t,e',AV.slice 1107 0 0 1 (Cp.lo 0)] 50),some (AO.cells [z' r.k,z' r.n,s' r.t,e',AV.slice 1107 0 0 1 (Cp.lo 0)] 50),some (AO.cells [] 18),none,none,none] 1108 ((k61' r).a ((k62' r).a ((k63' r).a (k8'.a ((k115' 1102).a (k8'.a ((p' ((fJc,3,A2' fJc 3,lJz (Rj.mk r.k r.n r.t r.la r.ll r.lc none 0 r.nc) []).snd.snd.fst = (fJc,3,A2' fJc 3,lJz (Rj.mk r.k r.n r.t r.la r.ll r.lc none 0 r.nc) []).snd.snd.fst)).a (k12'.a ((k116' r 1100 1101 1103 1102).a ((k117' r).a ((k118' r 1102).a (k119'.a (k120'.a ((k121' r 1107).a (k8'.a (k122'.a ((k123' r 1107).a t'))))))))))))))))) := by kernel_rfl
noncomputable section
abbrev k124' (q0 : Rj) (q1 : Addr) (q2 q3 q4 q5 : Nat) : Cnd := (p' (VW (AV.agg [z' q0.k,z' q0.n,s' q0.t,AV.v (Value.slice q0.la q0.ll q0.lc),AV.v (Value.slice (some q1) 0 q0.nc)]::AV.ptr q2 0::AV.ptr q3 0::AV.ptr q4 0::i' 0::AV.ptr q2 0::z' q0.k::AV.ptr q2 1::z' q0.n::AV.ptr q2 2::s' q0.t::AV.slice q5 0 0 1 (Cp.ex 0)::AV.ptr q2 4::AV.v (Value.slice (some q1) 0 q0.nc)::AV.slice q5 0 0 1 (Cp.lo 0)::AV.agg [z' q0.k,z' q0.n,s' q0.t,e',AV.slice q5 0 0 1 (Cp.lo 0)]::ru16 (u'::u'::u'::[])) (a'::AV.ptr q2 0::AV.ptr q3 0::AV.ptr q4 0::i' 0::ra16 (ra8 (ra4 (a'::a'::[]))))))
abbrev k125' (q0 : Rj) (q1 : Addr) : Cnd := (p' (OW (AO.cells [z' q0.k,z' q0.n,s' q0.t,AV.v (Value.slice q0.la q0.ll q0.lc),AV.v (Value.slice (some q1) 0 q0.nc)] 50) (AO.cells [z' q0.k,z' q0.n,s' q0.t,AV.v (Value.slice q0.la q0.ll q0.lc),AV.v (Value.slice (some q1) 0 q0.nc)] 50)))
end
theorem bE' (W : World) (r : Rj) (b : Addr) (F : HP) : wRun [] (A9' [(fJc, 1, 9, h0v (sS1 1102 0))]) [(fJc, 3, A2' fJc 3, lJz { r with na := some b, nl := 0 } [])] W fJc [aggJ { r with na := some b, nl := 0 }] [] kF F = VT.leaf (AV.agg [z' r.k,z' r.n,s' r.t,e',AV.slice 1107 0 0 1 (Cp.lo 0)]) [none,none,none,none,some (AO.cells [z' r.k,z' r.n,s' r.t,AV.v (Value.slice r.la r.ll r.lc),AV.v (Value.slice (some b) 0 r.nc)] 50),some (AO.cells [z' r.k,z' r.n,s' r.t,e',AV.slice 1107 0 0 1 (Cp.lo 0)] 50),some (AO.cells [z' r.k,z' r.n,s' r.t,e',AV.slice 1107 0 0 1 (Cp.lo 0)] 50),some (AO.cells [] 18),none,none,none] 1108 ((k61' r).a ((k62' r).a ((k63' r).a (k8'.a ((k115' 1102).a (k8'.a ((p' ((fJc,3,A2' fJc 3,lJz (Rj.mk r.k r.n r.t r.la r.ll r.lc (some b) 0 r.nc) []).snd.snd.fst = (fJc,3,A2' fJc 3,lJz (Rj.mk r.k r.n r.t r.la r.ll r.lc (some b) 0 r.nc) []).snd.snd.fst)).a (k12'.a ((k124' r b 1100 1101 1103 1102).a ((k125' r b).a ((k118' r 1102).a (k119'.a (k120'.a ((k121' r 1107).a (k8'.a (k122'.a ((k123' r 1107).a t'))))))))))))))))) := by kernel_rfl
noncomputable section
abbrev k126' (q0 : Rj) (q1 : World) (q2 : Addr) (q3 : List ByteArray) (q4 : Nat) : Cnd := ((p' (q0.nl.ble q0.nl = true)).a ((p' (((List.range (q0.nl * 1)).all fun j => (q1.cell? (q2.add j)).isSome) = true)).a ((p' ((vmap (BG' q1 q2 (q0.nl * 1))).all AV.one = true)).a ((p' (Nat.blt 0 q0.nl = true)).a ((p' (true = true)).a ((p' (((0 + q0.nl) * 16).ble 140737488355328 = true)).a ((p' ((0 + q0.nl).ble 9223372036854775807 = true)).a ((p' (true = true)).a ((p' (Nat.blt 0 (0 + q0.nl) = true)).a ((p' (OW (AO.cells ([] ++ vmap (BG' q1 q2 (q0.nl * 1))) 18) (AO.cells (rowV encS q3) 18))).a (f' (Wk (AV.slice q4 0 (0 + q0.nl) 1 (Cp.lo (0 + q0.nl))) (AV.slice q4 0 q3.length 1 (Cp.lo q3.length))))))))))))))
abbrev k127' (q0 : Rj) (q1 : Addr) (q2 q3 q4 q5 q6 : Nat) (q7 : List ByteArray) : Cnd := (p' (VW (AV.agg [z' q0.k,z' q0.n,s' q0.t,AV.v (Value.slice q0.la q0.ll q0.lc),AV.v (Value.slice (some q1) q0.nl q0.nc)]::AV.ptr q2 0::AV.ptr q3 0::AV.ptr q4 0::i' 0::AV.ptr q2 0::z' q0.k::AV.ptr q2 1::z' q0.n::AV.ptr q2 2::s' q0.t::AV.slice q5 0 0 1 (Cp.ex 0)::AV.ptr q2 4::AV.v (Value.slice (some q1) q0.nl q0.nc)::AV.slice q6 0 q7.length 1 (Cp.lo q7.length)::AV.agg [z' q0.k,z' q0.n,s' q0.t,e',AV.slice q6 0 q7.length 1 (Cp.lo q7.length)]::ru16 (u'::u'::u'::[])) (a'::AV.ptr q2 0::AV.ptr q3 0::AV.ptr q4 0::i' 0::ra16 (ra8 (ra4 (a'::a'::[]))))))
abbrev k128' (q0 : Rj) (q1 : Addr) : Cnd := (p' (OW (AO.cells [z' q0.k,z' q0.n,s' q0.t,AV.v (Value.slice q0.la q0.ll q0.lc),AV.v (Value.slice (some q1) q0.nl q0.nc)] 50) (AO.cells [z' q0.k,z' q0.n,s' q0.t,AV.v (Value.slice q0.la q0.ll q0.lc),AV.v (Value.slice (some q1) q0.nl q0.nc)] 50)))
abbrev k129' (q0 : Rj) (q1 : Nat) (q2 : List ByteArray) : Cnd := (p' (OW (AO.cells [z' q0.k,z' q0.n,s' q0.t,e',AV.slice q1 0 q2.length 1 (Cp.lo q2.length)] 50) (AO.cells [z' q0.k,z' q0.n,s' q0.t,e',AV.slice q1 0 q2.length 1 (Cp.lo q2.length)] 50)))
end
theorem bF' (W : World) (r : Rj) (b : Addr) (ns : List ByteArray) (F : HP) : wRun [] (A9' [(fJc, 1, 9, hvo (sS1 1103 ns.length) 1103 (rS ns))]) [(fJc, 3, A2' fJc 3, lJz { r with na := some b } ns)] W fJc [aggJ { r with na := some b }] [] kF F = VT.leaf (AV.agg [z' r.k,z' r.n,s' r.t,e',AV.slice 1108 0 ns.length 1 (Cp.lo ns.length)]) [none,none,some (AO.cells (rep [s' y1'] 0) 18),none,none,some (AO.cells [z' r.k,z' r.n,s' r.t,AV.v (Value.slice r.la r.ll r.lc),AV.v (Value.slice (some b) r.nl r.nc)] 50),some (AO.cells [z' r.k,z' r.n,s' r.t,e',AV.slice 1108 0 ns.length 1 (Cp.lo ns.length)] 50),some (AO.cells [z' r.k,z' r.n,s' r.t,e',AV.slice 1108 0 ns.length 1 (Cp.lo ns.length)] 50),some (AO.cells (AV.rens (sgN (nmJc (1100,1104,1101,1103)) [1000,1001,1004,1007] 1105) (rowV encS ns)) 18),none,none] 1109 ((k61' r).a ((k62' r).a ((k63' r).a (k8'.a ((k126' r W b ns 1103).a (k8'.a ((p' ((fJc,3,A2' fJc 3,lJz (Rj.mk r.k r.n r.t r.la r.ll r.lc (some b) r.nl r.nc) ns).snd.snd.fst = (fJc,3,A2' fJc 3,lJz (Rj.mk r.k r.n r.t r.la r.ll r.lc (some b) r.nl r.nc) ns).snd.snd.fst)).a (k12'.a ((k127' r b 1100 1101 1104 1102 1103 ns).a ((k128' r b).a ((k129' r 1103 ns).a (k119'.a ((p' (OW (AO.cells (rowV encS ns) 18) (AO.cells (AV.rens (nmJc (1100,1104,1101,1103)) (rowV encS ns)) 18))).a (((p' (true = true)).a (f' ([z' r.k,z' r.n,s' r.t,e',AV.slice 1108 0 ns.length 1 (Cp.lo ns.length)] = [z' r.k,z' r.n,s' r.t,e',AV.slice 1108 0 ns.length 1 (Cp.lo ns.length)]))).a (k8'.a (k122'.a (f' ([z' r.k,z' r.n,s' r.t,e',AV.slice 1108 0 ns.length 1 (Cp.lo ns.length)] = [z' r.k,z' r.n,s' r.t,e',AV.slice 1108 0 ns.length 1 (Cp.lo ns.length)])))))))))))))))))) := by kernel_rfl
noncomputable section
abbrev k130' (q0 : Rj) (q1 : Nat) (q2 : List Jv) (q3 : Nat) : Cnd := ((p' (true = true)).a (f' ([z' q0.k,z' q0.n,s' q0.t,AV.slice q1 0 q2.length 5 (Cp.lo q2.length),AV.slice q3 0 0 1 (Cp.lo 0)] = [z' q0.k,z' q0.n,s' q0.t,AV.slice q1 0 q2.length 5 (Cp.lo q2.length),AV.slice q3 0 0 1 (Cp.lo 0)])))
abbrev k131' (q0 : Rj) (q1 : Nat) (q2 : List Jv) (q3 : Nat) : Cnd := (p' ([z' q0.k,z' q0.n,s' q0.t,AV.slice q1 0 q2.length 5 (Cp.lo q2.length),AV.slice q3 0 0 1 (Cp.lo 0)] = [z' q0.k,z' q0.n,s' q0.t,AV.slice q1 0 q2.length 5 (Cp.lo q2.length),AV.slice q3 0 0 1 (Cp.lo 0)]))
end
theorem bJ' (W : World) (r : Rj) (d : Nat) (l : List Jv) (F : HP) : wRun [] (A9' [(fJc, 1, 9, h0v (sS1 1102 0))]) [(fJc, 3, A2' fJc 3, lJn { r with na := none, nl := 0 } [] d l)] W fJc [aggJ { r with na := none, nl := 0 }] [] kF F = VT.leaf (AV.agg [z' r.k,z' r.n,s' r.t,AV.slice 1106 0 l.length 5 (Cp.lo l.length),AV.slice 1108 0 0 1 (Cp.lo 0)]) [none,none,none,none,some (AO.cells [z' r.k,z' r.n,s' r.t,AV.v (Value.slice r.la r.ll r.lc),AV.v (Value.slice none 0 r.nc)] 50),some (AO.cells [z' r.k,z' r.n,s' r.t,AV.slice 1106 0 l.length 5 (Cp.lo l.length),AV.slice 1108 0 0 1 (Cp.lo 0)] 50),some (AO.own mdJ fun b x => Tree.frz fun C => LOf (JAt C d) C (some (Addr.mk b 0 none)) l),some (AO.cells [z' r.k,z' r.n,s' r.t,AV.slice 1106 0 l.length 5 (Cp.lo l.length),AV.slice 1108 0 0 1 (Cp.lo 0)] 50),some (AO.cells [] 18),none,none] 1109 ((k61' r).a ((k62' r).a ((k63' r).a (k8'.a ((k115' 1102).a (k8'.a ((p' ((fJc,3,A2' fJc 3,lJn (Rj.mk r.k r.n r.t r.la r.ll r.lc none 0 r.nc) [] d l).snd.snd.fst = (fJc,3,A2' fJc 3,lJn (Rj.mk r.k r.n r.t r.la r.ll r.lc none 0 r.nc) [] d l).snd.snd.fst)).a (k12'.a ((k116' r 1100 1101 1103 1102).a ((k117' r).a ((k118' r 1102).a (k119'.a (k120'.a ((k130' r 1106 l 1108).a (k8'.a (k122'.a ((k131' r 1106 l 1108).a t'))))))))))))))))) := by kernel_rfl
theorem bH' (W : World) (r : Rj) (b : Addr) (d : Nat) (l : List Jv) (F : HP) : wRun [] (A9' [(fJc, 1, 9, h0v (sS1 1102 0))]) [(fJc, 3, A2' fJc 3, lJn { r with na := some b, nl := 0 } [] d l)] W fJc [aggJ { r with na := some b, nl := 0 }] [] kF F = VT.leaf (AV.agg [z' r.k,z' r.n,s' r.t,AV.slice 1106 0 l.length 5 (Cp.lo l.length),AV.slice 1108 0 0 1 (Cp.lo 0)]) [none,none,none,none,some (AO.cells [z' r.k,z' r.n,s' r.t,AV.v (Value.slice r.la r.ll r.lc),AV.v (Value.slice (some b) 0 r.nc)] 50),some (AO.cells [z' r.k,z' r.n,s' r.t,AV.slice 1106 0 l.length 5 (Cp.lo l.length),AV.slice 1108 0 0 1 (Cp.lo 0)] 50),some (AO.own mdJ fun b x => Tree.frz fun C => LOf (JAt C d) C (some (Addr.mk b 0 none)) l),some (AO.cells [z' r.k,z' r.n,s' r.t,AV.slice 1106 0 l.length 5 (Cp.lo l.length),AV.slice 1108 0 0 1 (Cp.lo 0)] 50),some (AO.cells [] 18),none,none] 1109 ((k61' r).a ((k62' r).a ((k63' r).a (k8'.a ((k115' 1102).a (k8'.a ((p' ((fJc,3,A2' fJc 3,lJn (Rj.mk r.k r.n r.t r.la r.ll r.lc (some b) 0 r.nc) [] d l).snd.snd.fst = (fJc,3,A2' fJc 3,lJn (Rj.mk r.k r.n r.t r.la r.ll r.lc (some b) 0 r.nc) [] d l).snd.snd.fst)).a (k12'.a ((k124' r b 1100 1101 1103 1102).a ((k125' r b).a ((k118' r 1102).a (k119'.a (k120'.a ((k130' r 1106 l 1108).a (k8'.a (k122'.a ((k131' r 1106 l 1108).a t'))))))))))))))))) := by kernel_rfl
noncomputable section
abbrev k132' (q0 : Rj) (q1 : Nat) (q2 : List Jv) (q3 : Nat) (q4 : List ByteArray) : Cnd := ((p' (true = true)).a (f' ([z' q0.k,z' q0.n,s' q0.t,AV.slice q1 0 q2.length 5 (Cp.lo q2.length),AV.slice q3 0 q4.length 1 (Cp.lo q4.length)] = [z' q0.k,z' q0.n,s' q0.t,AV.slice q1 0 q2.length 5 (Cp.lo q2.length),AV.slice q3 0 q4.length 1 (Cp.lo q4.length)])))
end
theorem bI' (W : World) (r : Rj) (b : Addr) (ns : List ByteArray) (d : Nat) (l : List Jv) (F : HP) : wRun [] (A9' [(fJc, 1, 9, hvo (sS1 1103 ns.length) 1103 (rS ns))]) [(fJc, 3, A2' fJc 3, lJn { r with na := some b } ns d l)] W fJc [aggJ { r with na := some b }] [] kF F = VT.leaf (AV.agg [z' r.k,z' r.n,s' r.t,AV.slice 1107 0 l.length 5 (Cp.lo l.length),AV.slice 1109 0 ns.length 1 (Cp.lo ns.length)]) [none,none,some (AO.cells (rep [s' y1'] 0) 18),none,none,some (AO.cells [z' r.k,z' r.n,s' r.t,AV.v (Value.slice r.la r.ll r.lc),AV.v (Value.slice (some b) r.nl r.nc)] 50),some (AO.cells [z' r.k,z' r.n,s' r.t,AV.slice 1107 0 l.length 5 (Cp.lo l.length),AV.slice 1109 0 ns.length 1 (Cp.lo ns.length)] 50),some (AO.own mdJ fun b x => Tree.frz fun C => LOf (JAt C d) C (some (Addr.mk b 0 none)) l),some (AO.cells [z' r.k,z' r.n,s' r.t,AV.slice 1107 0 l.length 5 (Cp.lo l.length),AV.slice 1109 0 ns.length 1 (Cp.lo ns.length)] 50),some (AO.cells (AV.rens (sgN (nmJc (1100,1104,1101,1103)) [1000,1001,1002,1004,1007] 1105) (rowV encS ns)) 18),none] 1110 ((k61' r).a ((k62' r).a ((k63' r).a (k8'.a ((k126' r W b ns 1103).a (k8'.a ((p' ((fJc,3,A2' fJc 3,lJn (Rj.mk r.k r.n r.t r.la r.ll r.lc (some b) r.nl r.nc) ns d l).snd.snd.fst = (fJc,3,A2' fJc 3,lJn (Rj.mk r.k r.n r.t r.la r.ll r.lc (some b) r.nl r.nc) ns d l).snd.snd.fst)).a (k12'.a ((k127' r b 1100 1101 1104 1102 1103 ns).a ((k128' r b).a ((k129' r 1103 ns).a (k119'.a ((p' (OW (AO.cells (rowV encS ns) 18) (AO.cells (AV.rens (nmJc (1100,1104,1101,1103)) (rowV encS ns)) 18))).a ((k132' r 1107 l 1109 ns).a (k8'.a (k122'.a (f' ([z' r.k,z' r.n,s' r.t,AV.slice 1107 0 l.length 5 (Cp.lo l.length),AV.slice 1109 0 ns.length 1 (Cp.lo ns.length)] = [z' r.k,z' r.n,s' r.t,AV.slice 1107 0 l.length 5 (Cp.lo l.length),AV.slice 1109 0 ns.length 1 (Cp.lo ns.length)])))))))))))))))))) := by kernel_rfl
end
open Tree (C9' D6' frz SS' QA' OS' J8' five)
structure JcOk (W : World) (e : Nat) (v : Jv) (r : Rj) : Prop where
 z : v.list = [] → Tri Tryz.prog W fJc [aggJ r] [] (.agg [iv r.k, iv r.n, sv r.t, .mt, sS1 1001 v.names.length]) [(1001, rS v.names)]
 n : v.list ≠ [] → Tri Tryz.prog W fJc [aggJ r] [] (.agg [iv r.k, iv r.n, sv r.t, sL5 1000 v.list.length, sS1 1001 v.names.length]) [(1000, ownJ e v.list), (1001, rS v.names)]
theorem K9' (K : Nat → Bool) (r : Rj) : AV.cl K (aggJ r) := ⟨Ye, Ye, Ye, Ye, Ye, Ye⟩
theorem UZ' {W : World} {e : Nat} {v : Jv} {r : Rj} (h : JcOk W e v r) (hz : v.list = []) (F : HP) (hF : AK' W F) : C1OK Tryz.prog F fJc (cJz r v.names) :=
 BR' hF (fun _ => .agg [iv r.k, iv r.n, sv r.t, .mt, sS1 1001 v.names.length]) (fun _ => RO.ret _) (fun _ => rfl) (fun _ _ => h.z hz) fun _ => ⟨rfl, rfl, ⟨K9' _ _, Ye⟩, A7', ⟨⟨Ye, Ye, Ye, Ye, rfl, Ye⟩, Ye⟩, A1' (H5' _ _) A7'⟩
theorem V0' {W : World} {e : Nat} {v : Jv} {r : Rj} (h : JcOk W e v r) (hz : v.list ≠ []) (F : HP) (hF : AK' W F) : C1OK Tryz.prog F fJc (cJn r e v.list v.names) :=
 BR' hF (fun _ => .agg [iv r.k, iv r.n, sv r.t, sL5 1000 v.list.length, sS1 1001 v.names.length]) (fun _ => RO.ret _) (fun _ => rfl) (fun _ _ => h.n hz) fun _ => ⟨rfl, rfl, ⟨K9' _ _, Ye⟩, A7', ⟨⟨Ye, Ye, Ye, rfl, rfl, Ye⟩, Ye⟩, A1' Ye (A1' (H5' _ _) A7')⟩
theorem JL.mono {C C' : Mem} (h : ∀ a v, C a = some v → C' a = some v) {d : Nat} {oa : Option Addr} {l : List Jv} (hl : LOf (JAt C d) C oa l) : LOf (JAt C' d) C' oa l := LOf.mono (fun _ _ hx => JAt.mono h hx) h hl
theorem LOf.nil {V : Jv → Rj → Prop} {C : Mem} (oa : Option Addr) : LOf V C oa [] := ⟨Nat.zero_le _, fun i x h => by simp at h⟩
theorem NOf.nil {C : Mem} (oa : Option Addr) : NOf C oa [] := ⟨Nat.zero_le _, fun i x h => by simp at h⟩
theorem W9' {N : A8'} {k d : Nat} {l : List Jv} {y : Value} {D : Nat → Prop} {w : World} (ho : OR N k (ownJ d l) D w) (hy : VR N (.slice k 0 l.length 5 (.lo l.length)) y) : ∃ la lc, y = .slice la l.length lc ∧ LOf (JAt (C9' D w) d) (C9' D w) la l := by
 obtain ⟨lo, x, c, h1, rfl, h3⟩ := J8' hy
 obtain ⟨lo', h1', h0, h2⟩ := ho
 rw [h1] at h1'
 cases h1'
 refine ⟨_, _, rfl, ?_⟩
 cases l with
 | nil => exact LOf.nil _
 | cons v l => rw [h3 (Nat.succ_pos _), h0]; exact h2.1
theorem TP' {N : A8'} {k : Nat} {ns : List ByteArray} {y : Value} {D : Nat → Prop} {w : World} (hb : ns.length * 16 ≤ big) (ho : OR N k (rS ns) D w) (hy : VR N (.slice k 0 ns.length 1 (.lo ns.length)) y) : ∃ la lc, y = .slice la ns.length lc ∧ NOf (C9' D w) la ns := by
 obtain ⟨lo, x, c, h1, rfl, h3⟩ := J8' hy
 obtain ⟨lo', h1', h0, h2⟩ := OS' (f := encS) (m := 1) XR' ho
 rw [h1] at h1'
 cases h1'
 refine ⟨_, _, rfl, ?_⟩
 cases ns with
 | nil => exact NOf.nil _
 | cons v l =>
  rw [h3 (Nat.succ_pos _), h0]
  refine ⟨hb, fun i x hx => ⟨_, rfl, ?_⟩⟩
  have := h2 i x hx 0 (.string x) rfl
  rw [Nat.mul_one] at this
  exact this
def PJ (d : Nat) (R : List Rj) (l : List Jv) (C : Mem) : Prop := R.length = l.length ∧ ∀ (i : Nat) (x : Jv), l[i]? = some x → ∃ r, R[i]? = some r ∧ JAt C d x r
theorem PJ.mono {d : Nat} {R : List Rj} {l : List Jv} {C C' : Mem} (h : ∀ a v, C a = some v → C' a = some v) (hp : PJ d R l C) : PJ d R l C' := ⟨hp.1, fun i x hx => by
 obtain ⟨r, h1, h2⟩ := hp.2 i x hx
 exact ⟨r, h1, h2.mono h⟩⟩
theorem PJ.add {d : Nat} {R : List Rj} {f : List Jv} {C : Mem} (hp : PJ d R f C) {x : Jv} {r : Rj} (hx : JAt C d x r) : PJ d (R ++ [r]) (f ++ [x]) C := by
 refine ⟨by simp [hp.1], fun i y hy => ?_⟩
 rcases Nat.lt_or_ge i f.length with h | h
 ·rw [List.getElem?_append_left h] at hy
  obtain ⟨s, h1, h2⟩ := hp.2 i y hy
  exact ⟨s, by rw [List.getElem?_append_left (by have := hp.1; omega)]; exact h1, h2⟩
 ·rw [List.getElem?_append_right h] at hy
  have : i - f.length = 0 := by
   cases hk : i - f.length with
   | zero => rfl
   | succ n => rw [hk] at hy; simp at hy
  rw [this] at hy
  simp only [List.getElem?_cons_zero, Option.some.injEq] at hy
  subst hy
  refine ⟨r, ?_, hx⟩
  rw [List.getElem?_append_right (by have := hp.1; omega), show i - R.length = 0 by have := hp.1; omega]
  rfl
theorem PJ.nil (d : Nat) (C : Mem) : PJ d [] [] C := ⟨rfl, fun i x h => by simp at h⟩
def QJ (d : Nat) (v : Jv) (c : List Value) (C : Mem) : Prop := ∃ r : Rj, c = r.cells ∧ JAt C (d + 1) v r
theorem L9' {r r' : Rj} (h : r.cells = r'.cells) : r = r' := by
 obtain ⟨a, b, c, d, e, f, g, i, j⟩ := r
 obtain ⟨a', b', c', d', e', f', g', i', j'⟩ := r'
 simp only [Rj.cells, List.cons.injEq, Value.int.injEq, Value.string.injEq, Value.slice.injEq, true_and, and_true] at h
 obtain ⟨rfl, rfl, rfl, ⟨rfl, rfl, rfl⟩, rfl, rfl, rfl⟩ := h
 rfl
theorem K3' {N1 : A8'} {H : LH} {D : Nat → Nat → Prop} {w : World} {d : Nat} {v : Jv} {x : Rj} {LV : AV} {kt : Nat} {DD : Nat → Prop} (hx : x.k = v.kind ∧ x.n = v.num ∧ x.t = v.text) (hb : v.names.length * 16 ≤ big)
  (hD : ∀ n o, getO H n = some o → OR N1 n o (D n) w) (hkt : getO H kt = some (rS v.names)) (hDt : ∀ b, D kt b → DD b)
  (hLV : ∀ y, VR N1 LV y → ∃ la lc, y = .slice la v.list.length lc ∧ LOf (JAt (C9' DD w) d) (C9' DD w) la v.list) :
  ∀ yb, VRs N1 [iv x.k, iv x.n, sv x.t, LV, .slice kt 0 v.names.length 1 (.lo v.names.length)] yb → ∃ c : List Value, c.length = 5 ∧ VRs N1 (vmap c) yb ∧ QJ d v c (C9' DD w) := by
 intro yb hy
 obtain ⟨yl, yt, a1, a2, rfl⟩ := five hy
 obtain ⟨la, lc, rfl, b1⟩ := hLV yl a1
 obtain ⟨ta, tc, rfl, b2⟩ := TP' hb (hD kt _ hkt) a2
 refine ⟨_, rfl, VRs.vmap _, ⟨x.k, x.n, x.t, la, v.list.length, lc, ta, v.names.length, tc⟩, rfl, ⟨hx.1, hx.2.1, hx.2.2, rfl, rfl⟩, b1, b2.mono (D6' hDt)⟩
theorem P0' {N1 : A8'} {C : Mem} {V : Jv → Rj → Prop} {l : List Jv} (hl : l = []) : ∀ y, VR N1 .mt y → ∃ la lc, y = .slice la l.length lc ∧ LOf V C la l := by
 intro y hy
 subst hl
 simp only [VR] at hy
 obtain ⟨a, rfl⟩ := hy
 exact ⟨_, _, rfl, LOf.nil _⟩
theorem JL' {N1 : A8'} {H : LH} {D : Nat → Nat → Prop} {w : World} {d kl : Nat} {l : List Jv} {DD : Nat → Prop} (hD : ∀ n o, getO H n = some o → OR N1 n o (D n) w) (hkl : getO H kl = some (ownJ d l)) (hDl : ∀ b, D kl b → DD b) :
  ∀ y, VR N1 (.slice kl 0 l.length 5 (.lo l.length)) y → ∃ la lc, y = .slice la l.length lc ∧ LOf (JAt (C9' DD w) d) (C9' DD w) la l := by
 intro y hy
 obtain ⟨la, lc, e, h⟩ := W9' (hD kl _ hkl) hy
 exact ⟨la, lc, e, JL.mono (D6' hDl) h⟩
theorem IX' (r : Rj) : (encJ r).length = 5 := rfl
theorem ZF' {d : Nat} {R : List Rj} {l : List Jv} {N1 : A8'} {i : Nat} {Di Dk : Nat → Prop} {w : World} (hb : l.length * 80 ≤ big) (h : OR N1 i (rJ R) Di w) (hp : PJ d R l (C9' Dk w)) (hlt : ∀ b, Dk b → b < w.heap.size) : OR N1 i (ownJ d l) (fun x => Di x ∨ Dk x) w := by
 have hDi := h.lt
 obtain ⟨lo, h1, h2, h3⟩ := OS' (f := encJ) IX' h
 refine ⟨lo, h1, h2, ⟨hb, fun k x hx => ?_⟩, fun b hb => hb.elim (hDi b) (hlt b)⟩
 obtain ⟨r, q1, q2⟩ := hp.2 k x hx
 exact ⟨_, r, rfl, (show Cells _ _ r.cells from fun j u hu => D6' (fun b hb => .inl hb) _ _ (h3 k r q1 j u hu)), q2.mono (D6' fun b hb => .inr hb)⟩
def oNJ (o0 o1 o7 : AO) (R : List Rj) (P : Mem → Prop) : LH := [(1000, o0), (1001, o1), (1002, rJ R), (1003, .any (frz P)), (1004, oZJ), (1007, o7)]
theorem QB' {W0 w : World} {F : HP} {N : A8'} {ys : List Value} {vs : List AV} {e : Nat} {R : List Rj} {l0 : List Jv} {v : Jv} {r : Rj} (hx : r.k = v.kind ∧ r.n = v.num ∧ r.t = v.text) (hb : v.names.length * 16 ≤ big) {LV : AV} {o0 o1 o7 : AO} {X : LH} {S : List Nat}
  (hS : ∀ n, n ∈ S → n = 1005 ∨ n = 1006) (hS5 : 1005 ∈ S) (hX : (X = [] ∧ LV = .mt ∧ v.list = []) ∨ (X = [(1006, ownJ e v.list)] ∧ LV = sL5 1006 v.list.length ∧ 1006 ∈ S))
  (hs : St W0 F N ([(1000, o0), (1001, o1), (1002, .cells (rowV encJ R ++ [iv r.k, iv r.n, sv r.t, LV, sS1 1005 v.names.length]) tJs), (1003, .any (frz (PJ (e + 1) R l0))), (1004, oZJ), (1007, o7), (1005, rS v.names)] ++ X) vs ys w)
  (hv : ∀ R P, AV.cls (fun n => Nat.blt n 1000 || (getO (oNJ o0 o1 o7 R P) n).isSome) vs) (ho : ∀ R P, ∀ x ∈ oNJ o0 o1 o7 R P, x.2.cl (fun n => Nat.blt n 1000 || (getO (oNJ o0 o1 o7 R P) n).isSome)) :
  ∃ r', St W0 F N (oNJ o0 o1 o7 (R ++ [r']) (PJ (e + 1) (R ++ [r']) (l0 ++ [v]))) vs ys w := by
 obtain ⟨HH, hHH⟩ : ∃ HH, HH = [(1000, o0), (1001, o1), (1002, AO.cells (rowV encJ R ++ [iv r.k, iv r.n, sv r.t, LV, sS1 1005 v.names.length]) tJs), (1003, .any (frz (PJ (e + 1) R l0))), (1004, oZJ), (1007, o7), (1005, rS v.names)] ++ X := ⟨_, rfl⟩
 rw [← hHH] at hs
 have hl : AF' 1100 HH = true := by
  subst hHH
  rcases hX with ⟨rfl, _⟩ | ⟨rfl, _⟩ <;> rfl
 have hg5 : getO HH 1005 = some (rS v.names) := by subst hHH; rfl
 have hg3 : getO HH 1003 = some (.any (frz (PJ (e + 1) R l0))) := by subst hHH; rfl
 have hg0 : getO HH 1000 = some o0 := by subst hHH; rfl
 have hg1 : getO HH 1001 = some o1 := by subst hHH; rfl
 have hg4 : getO HH 1004 = some oZJ := by subst hHH; rfl
 have hg7 : getO HH 1007 = some o7 := by subst hHH; rfl
 obtain ⟨c, hc⟩ := SS' hl hs 1002 1003 S (by decide) (fun h => by rcases hS _ h with h | h <;> cases h) (fun h => by rcases hS _ h with h | h <;> cases h) (a := rowV encJ R) (b := [iv r.k, iv r.n, sv r.t, LV, sS1 1005 v.names.length]) (e := tJs) (by subst hHH; rfl) hg3 (fun N1 D w h => h.lt)
  (fun c C => PJ (e + 1) R l0 C ∧ QJ e v c C) (fun N1 D hD yb hy => by
   have hP : PJ (e + 1) R l0 (C9' (D 1003) w) := (hD 1003 _ hg3).1
   have hLV : ∀ y, VR N1 LV y → ∃ la lc, y = .slice la v.list.length lc ∧ LOf (JAt (C9' (fun x => D 1003 x ∨ ∃ j, j ∈ S ∧ (∃ o, getO HH j = some o) ∧ D j x) w) e) (C9' (fun x => D 1003 x ∨ ∃ j, j ∈ S ∧ (∃ o, getO HH j = some o) ∧ D j x) w) la v.list := by
    rcases hX with ⟨rfl, rfl, h0⟩ | ⟨rfl, rfl, hm⟩
    ·exact P0' h0
    ·have hg6 : getO HH 1006 = some (ownJ e v.list) := by subst hHH; rfl
     exact JL' hD hg6 fun b hb => .inr ⟨1006, hm, ⟨_, hg6⟩, hb⟩
   obtain ⟨c, c1, c2, c3⟩ := K3' hx hb hD hg5 (fun b hb => .inr ⟨1005, hS5, ⟨_, hg5⟩, hb⟩) hLV yb hy
   exact ⟨c, c1, c2, hP.mono (D6' fun b hb => .inl hb), c3⟩)
 obtain ⟨⟨C0, _, r', rfl, _⟩, hc⟩ := hc
 refine ⟨r', hc _ _ rfl ?_ rfl (fun C ⟨h1, r2, h2, h3⟩ => ?_) (fun n o h1 h2 h3 => ?_) (hv _ _) (ho _ _)⟩
 ·show some (AO.cells (rowV encJ (R ++ [r'])) tJs) = some _
  rw [JC', W4']
  rfl
 ·rw [← L9' h2] at h3
  exact h1.add h3
 ·simp only [oNJ, getO] at h3
  by_cases e0 : n = 1000
  ·subst e0; refine ⟨(fun h => by (rcases hS _ h with h | h <;> cases h)), ?_⟩; rw [hg0]; exact h3
  ·rw [if_neg e0] at h3
   by_cases e1 : n = 1001
   ·subst e1; refine ⟨(fun h => by (rcases hS _ h with h | h <;> cases h)), ?_⟩; rw [hg1]; exact h3
   ·rw [if_neg e1, if_neg h1, if_neg h2] at h3
    by_cases e4 : n = 1004
    ·subst e4; refine ⟨(fun h => by (rcases hS _ h with h | h <;> cases h)), ?_⟩; rw [hg4]; exact h3
    ·rw [if_neg e4] at h3
     by_cases e7 : n = 1007
     ·subst e7; refine ⟨(fun h => by (rcases hS _ h with h | h <;> cases h)), ?_⟩; rw [hg7]; exact h3
     ·rw [if_neg e7] at h3; cases h3
theorem MZ' {W0 w : World} {F : HP} {N : A8'} {ys : List Value} {vs : List AV} {e : Nat} {v : Jv} {r : Rj} (hx : r.k = v.kind ∧ r.n = v.num ∧ r.t = v.text) (hb : v.names.length * 16 ≤ big) {LV : AV} {o0 o1 o7 : AO} {X : LH} {S : List Nat}
  (hS : ∀ n, n ∈ S → n = 1006) (hX : (X = [] ∧ LV = .mt ∧ v.list = []) ∨ (X = [(1006, ownJ e v.list)] ∧ LV = sL5 1006 v.list.length ∧ 1006 ∈ S))
  (hs : St W0 F N ([(1000, o0), (1001, o1), (1002, .cells [iv r.k, iv r.n, sv r.t, LV, sS1 1003 v.names.length] tJs), (1003, rS v.names), (1004, oZJ), (1007, o7)] ++ X) vs ys w)
  (hv : ∀ R P, AV.cls (fun n => Nat.blt n 1000 || (getO (oNJ o0 o1 o7 R P) n).isSome) vs) (ho : ∀ R P, ∀ x ∈ oNJ o0 o1 o7 R P, x.2.cl (fun n => Nat.blt n 1000 || (getO (oNJ o0 o1 o7 R P) n).isSome)) :
  ∃ r', St W0 F N (oNJ o0 o1 o7 [r'] (PJ (e + 1) [r'] [v])) vs ys w := by
 obtain ⟨HH, hHH⟩ : ∃ HH, HH = [(1000, o0), (1001, o1), (1002, AO.cells [iv r.k, iv r.n, sv r.t, LV, sS1 1003 v.names.length] tJs), (1003, rS v.names), (1004, oZJ), (1007, o7)] ++ X := ⟨_, rfl⟩
 rw [← hHH] at hs
 have hl : AF' 1100 HH = true := by
  subst hHH
  rcases hX with ⟨rfl, _⟩ | ⟨rfl, _⟩ <;> rfl
 have hg3 : getO HH 1003 = some (rS v.names) := by subst hHH; rfl
 have hg0 : getO HH 1000 = some o0 := by subst hHH; rfl
 have hg1 : getO HH 1001 = some o1 := by subst hHH; rfl
 have hg4 : getO HH 1004 = some oZJ := by subst hHH; rfl
 have hg7 : getO HH 1007 = some o7 := by subst hHH; rfl
 obtain ⟨c, hc⟩ := SS' hl hs 1002 1003 S (by decide) (fun h => by have h := hS _ h; cases h) (fun h => by have h := hS _ h; cases h) (a := []) (b := [iv r.k, iv r.n, sv r.t, LV, sS1 1003 v.names.length]) (e := tJs) (by subst hHH; rfl) hg3 (fun N1 D w h => h.lt)
  (fun c C => QJ e v c C) (fun N1 D hD yb hy => by
   have hLV : ∀ y, VR N1 LV y → ∃ la lc, y = .slice la v.list.length lc ∧ LOf (JAt (C9' (fun x => D 1003 x ∨ ∃ j, j ∈ S ∧ (∃ o, getO HH j = some o) ∧ D j x) w) e) (C9' (fun x => D 1003 x ∨ ∃ j, j ∈ S ∧ (∃ o, getO HH j = some o) ∧ D j x) w) la v.list := by
    rcases hX with ⟨rfl, rfl, h0⟩ | ⟨rfl, rfl, hm⟩
    ·exact P0' h0
    ·have hg6 : getO HH 1006 = some (ownJ e v.list) := by subst hHH; rfl
     exact JL' hD hg6 fun b hb => .inr ⟨1006, hm, ⟨_, hg6⟩, hb⟩
   exact K3' hx hb hD hg3 (fun b hb => .inl hb) hLV yb hy)
 obtain ⟨⟨C0, r', rfl, _⟩, hc⟩ := hc
 refine ⟨r', hc _ _ rfl rfl rfl (fun C ⟨r2, h2, h3⟩ => ?_) (fun n o h1 h2 h3 => ?_) (hv _ _) (ho _ _)⟩
 ·rw [← L9' h2] at h3
  exact (PJ.nil _ C).add h3
 ·simp only [oNJ, getO] at h3
  by_cases e0 : n = 1000
  ·subst e0; refine ⟨(fun h => by (have h := hS _ h; cases h)), ?_⟩; rw [hg0]; exact h3
  ·rw [if_neg e0] at h3
   by_cases e1 : n = 1001
   ·subst e1; refine ⟨(fun h => by (have h := hS _ h; cases h)), ?_⟩; rw [hg1]; exact h3
   ·rw [if_neg e1, if_neg h1, if_neg h2] at h3
    by_cases e4 : n = 1004
    ·subst e4; refine ⟨(fun h => by (have h := hS _ h; cases h)), ?_⟩; rw [hg4]; exact h3
    ·rw [if_neg e4] at h3
     by_cases e7 : n = 1007
     ·subst e7; refine ⟨(fun h => by (have h := hS _ h; cases h)), ?_⟩; rw [hg7]; exact h3
     ·rw [if_neg e7] at h3; cases h3
theorem JF' {σ : Nat → Nat} : ∀ (a b : List AV), AV.rens σ (a ++ b) = AV.rens σ a ++ AV.rens σ b
 | [], b => rfl
 | x :: a, b => by simp only [List.cons_append, AV.rens, JF' a b]
theorem Q9' {m : Nat} {told : List (Nat × AV)} {K : Nat → Bool} (h : ∀ x ∈ told, AV.cl K x.2) : AV.cls K (tms 0 m told) := M1' h m 0
theorem YY' : ∀ args, RO (gJc args) := by
 intro args
 unfold gJc
 repeat' split
 all_goals first
  | exact RO.fail _
  | (refine RO.read _ _ fun o => ?_
     repeat' split
     all_goals first | exact RO.ret _ | exact RO.fail _)
theorem LH' {a b c x x' y : AV} (h : Wk x x') : Wk (.agg [a, b, c, x, y]) (.agg [a, b, c, x', y]) := fun N z hz => by
 simp only [VR] at hz ⊢
 obtain ⟨cs, h1, h2⟩ := hz
 exact ⟨cs, (VW.cons Ya (VW.cons Ya (VW.cons Ya (VW.cons h (VW.cons Ya VW.nil))))) N cs h1, h2⟩
def oSJ (r : Rj) (ns : List ByteArray) (e : Nat) (l : List Jv) (R : List Rj) : Nat → LH
 | 0 => oJ0 r ns
 | i + 1 => oJc r ns (sL5 1002 R.length) R (PJ e R (l.take (i + 1)))
def o1J (r : Rj) (ns : List ByteArray) (m : Nat) : AO := .cells [iv r.k, iv r.n, sv r.t, sL5 1002 m, sS1 1007 ns.length] tJs
theorem QK' (r : Rj) (ns : List ByteArray) (m : Nat) (R : List Rj) (P : Mem → Prop) : ∀ x ∈ oNJ (.cells (vmap r.cells) tJs) (o1J r ns m) (rS ns) R P, x.2.cl (fun n => Nat.blt n 1000 || (getO (oNJ (.cells (vmap r.cells) tJs) (o1J r ns m) (rS ns) R P) n).isSome) :=
 A1' ⟨Ye, Ye, Ye, Ye, Ye, Ye⟩ (A1' ⟨Ye, Ye, Ye, rfl, rfl, Ye⟩ (A1' (M2' _ _) (A1' Ye (A1' ⟨Ye, Ye, Ye, Ye, Ye, Ye⟩ (A1' (H5' _ _) A7')))))
theorem SM' {f : List Jv} {j : Nat} {x : Jv} (h : f[j]? = some x) : f.take (j + 1) = f.take j ++ [x] := by
 rw [List.take_add_one, h]; rfl
theorem MQ' (K : Nat → Bool) (h : K 1000 = true ∧ K 1001 = true ∧ K 1004 = true) (i : Nat) : AV.cls K (tms 0 35 (aJc i)) := Q9' (A1' h.1 (A1' h.2.2 (A1' h.2.1 (A1' Ye A7'))))
theorem rSr {σ : Nat → Nat} {L : List ByteArray} {e : TypeId} (he : e = tStr) : OW (.cells (rowV encS L) e) ((rS L).ren σ) := rS_ow rfl he
theorem rSrr {σ τ : Nat → Nat} {L : List ByteArray} {e : TypeId} (he : e = tStr) : OW (.cells (AV.rens τ (rowV encS L)) e) ((rS L).ren σ) := rS_ow (by rw [AQ']) he
set_option maxHeartbeats 4000000 in
theorem PA' (W : World) (d : Nat) (hV : ∀ v r, JAt W.cell? d v r → ∃ e, d = e + 1 ∧ JcOk W e v r) (ns : List ByteArray) (l : List Jv) (hne : l ≠ []) (r : Rj) (hll : r.ll = l.length) (ha : LOf (JAt W.cell? d) W.cell? r.la l) :
  LTri Tryz.prog W (A2' fJc 3) (tms 0 35 (aJc 0)) (oJ0 r ns) (.exit 0) (tms 0 35 zJc) (oJn r ns d l) := by
 have hlen := E7' ha.1 (by decide)
 have hbig := ha.1
 refine TV' (W := W) (g := fJc) (b := A2' fJc 3) (σ := {z : Nat × List Rj // z.1 ≤ l.length ∧ z.2.length = z.1}) 35 (fun z => aJc z.1.1) (fun z => oSJ r ns d l z.1.2 z.1.1) (.exit 0) zJc (oJn r ns d l) (fun z => l.length - z.1.1) kJ [1, 2, 3, 4] (by intro h; cases h) (fun z => by
  obtain ⟨⟨i, R⟩, _⟩ := z
  cases i <;> rfl) ?_ ⟨(0, []), Nat.zero_le _, rfl⟩
 rintro ⟨⟨j, R⟩, hj, hR⟩
 simp only at hj hR ⊢
 by_cases h1 : j < l.length
 ·obtain ⟨x, hx⟩ := BS' h1
  obtain ⟨a, s, ea, q1, q2⟩ := ha.2 j x hx
  obtain ⟨e, rfl, hcv⟩ := hV x s q2
  have aA := all5 q1
  obtain ⟨a1, a2, a3, a4, a5⟩ := c5 q1
  have hnb : x.names.length * 16 ≤ big := q2.2.2.1
  obtain ⟨⟨i1, i2, i3, i4, i5⟩, _, _⟩ := q2
  have hw := BO' j (by omega)
  have e1 : decide (Int.ofNat j < (r.ll : Int)) = true := ltTC (by omega)
  have h1' : j < r.ll := by omega
  obtain ⟨rk, rn, rt, rla, rll, rlc, rta, rtl, rtc⟩ := r
  simp only at ea hll
  subst ea
  have hnx := SM' hx
  rcases Nat.eq_zero_or_pos j with rfl | hpos
  ·clear hbig
   have hR0 : R = [] := List.length_eq_zero_iff.1 hR
   subst hR0
   have e0 : decide (Int.ofNat 0 < (rll : Int)) = true := e1
   by_cases hz : x.list = []
   ·refine ⟨[(fJc, cJz s x.names)], hJc 0 s, [], fun F hF => AO' (UZ' hcv hz F hF), fun _ _ => noL, fun F => ?_⟩
    refine Yj (bO' W ⟨rk, rn, rt, none, rll, rlc, rta, rtl, rtc⟩ ns a s x.names F) ⟨⟨?_, rfl, .inl ⟨rfl, aJc 1, [(1000, .cells (vmap (Rj.mk rk rn rt (some a) rll rlc rta rtl rtc).cells) tJs), (1001, o1J ⟨rk, rn, rt, some a, rll, rlc, rta, rtl, rtc⟩ ns 1), (1002, .cells [iv s.k, iv s.n, sv s.t, .mt, sS1 1003 x.names.length] tJs), (1003, rS x.names), (1004, oZJ), (1007, rS ns)], [(1000, 1000), (1001, 1001), (1002, 1102), (1003, 1100), (1004, 1004), (1007, 1007)], rfl, ⟨by kernel_rfl, by kernel_rfl, ⟨Ya, Ya, Ya, Ya, Ye⟩, ⟨_, rfl, Yc⟩, ⟨_, rfl, Yc⟩, ⟨_, rfl, Yc⟩, ⟨_, rfl, rSrr rfl⟩, ⟨_, rfl, Yc⟩, ⟨_, rfl, rSr rfl⟩, Ye⟩, fun W0 F N ys w hs => ?_⟩⟩⟩
    ·simp only [Cnd.holds, e0, h1', aA, a1, a2, a3, a4, a5, Option.getD_some, Option.isSome_some, Nat.blt_eq, true_and, and_true]
     and_intros
     all_goals first
      | (with_reducible exact AP' hw)
      | exact A0' e0
      | exact CE' rfl rfl rfl rfl rfl | (with_reducible first | exact Ye | exact Yf | exact A4' _ | assumption) | exact Yf | ((repeat (first | exact VW.nil | refine Yg ?_ | refine Yh ?_ | refine Yi ?_)); done)
    ·obtain ⟨r', hs'⟩ := MZ' (e := e) (X := []) (S := []) ⟨i1, i2, i3⟩ hnb (fun n hn => by cases hn) (.inl ⟨rfl, rfl, hz⟩) hs (fun R P => MQ' _ ⟨rfl, rfl, rfl⟩ _) (fun R P => QK' _ _ 1 R P)
     refine ⟨⟨(1, [r']), h1, rfl⟩, BD' h1, ?_⟩
     show St _ _ _ (oJc _ _ _ _ (PJ _ _ (l.take (0 + 1)))) _ _ _
     rw [hnx]
     exact hs'
   ·refine ⟨[(fJc, cJn s e x.list x.names)], hJc 0 s, [], fun F hF => AO' (V0' hcv hz F hF), fun _ _ => noL, fun F => ?_⟩
    refine Yj (bP' W ⟨rk, rn, rt, none, rll, rlc, rta, rtl, rtc⟩ ns a s e x.list x.names F) ⟨⟨?_, rfl, .inl ⟨rfl, aJc 1, [(1000, .cells (vmap (Rj.mk rk rn rt (some a) rll rlc rta rtl rtc).cells) tJs), (1001, o1J ⟨rk, rn, rt, some a, rll, rlc, rta, rtl, rtc⟩ ns 1), (1002, .cells [iv s.k, iv s.n, sv s.t, sL5 1006 x.list.length, sS1 1003 x.names.length] tJs), (1003, rS x.names), (1004, oZJ), (1007, rS ns), (1006, ownJ e x.list)], [(1000, 1000), (1001, 1001), (1002, 1103), (1003, 1101), (1004, 1004), (1007, 1007), (1006, 1100)], rfl, ⟨by kernel_rfl, by kernel_rfl, ⟨Ya, Ya, Ya, Ya, Ye⟩, ⟨_, rfl, Yc⟩, ⟨_, rfl, Yc⟩, ⟨_, rfl, Yc⟩, ⟨_, rfl, rSrr rfl⟩, ⟨_, rfl, Yc⟩, ⟨_, rfl, rSr rfl⟩, ⟨_, rfl, Yc⟩, Ye⟩, fun W0 F N ys w hs => ?_⟩⟩⟩
    ·simp only [Cnd.holds, e0, h1', aA, a1, a2, a3, a4, a5, Option.getD_some, Option.isSome_some, Nat.blt_eq, true_and, and_true]
     and_intros
     all_goals first
      | (with_reducible exact AP' hw)
      | exact A0' e0
      | exact CE' rfl rfl rfl rfl rfl | (with_reducible first | exact Ye | exact Yf | exact A4' _ | assumption) | exact Yf | ((repeat (first | exact VW.nil | refine Yg ?_ | refine Yh ?_ | refine Yi ?_)); done)
    ·obtain ⟨r', hs'⟩ := MZ' (e := e) (X := [(1006, ownJ e x.list)]) (S := [1006]) ⟨i1, i2, i3⟩ hnb (fun n hn => by simpa using hn) (.inr ⟨rfl, rfl, by simp⟩) hs (fun R P => MQ' _ ⟨rfl, rfl, rfl⟩ _) (fun R P => QK' _ _ 1 R P)
     refine ⟨⟨(1, [r']), h1, rfl⟩, BD' h1, ?_⟩
     show St _ _ _ (oJc _ _ _ _ (PJ _ _ (l.take (0 + 1)))) _ _ _
     rw [hnx]
     exact hs'
  ·obtain ⟨j, rfl⟩ : ∃ m, j = m + 1 := ⟨j - 1, by omega⟩
   have k1 : (0 + R.length * 5).ble (rowV encJ R).length = true := by rw [GL' IX', Nat.ble_eq]; omega
   have k2 : ((R.length + 1) * 80).ble 140737488355328 = true := by
    have hb : big = 140737488351232 := rfl
    rw [Nat.ble_eq]; omega
   have k3 : (R.length + 1).ble 9223372036854775807 = true := by rw [Nat.ble_eq]; omega
   have ktk : List.take (R.length * 5) (List.drop 0 (rowV encJ R)) = rowV encJ R := by rw [List.drop_zero, N5' IX', List.take_length]
   have k4 : (List.take (R.length * 5) (List.drop 0 (rowV encJ R))).length.beq (R.length * 5) = true := by rw [ktk, GL' IX']; exact Nat.beq_refl _
   by_cases hz : x.list = []
   ·refine ⟨[(fJc, cJz s x.names)], hJc (j + 1) s, [], fun F hF => AO' (UZ' hcv hz F hF), fun _ _ => noL, fun F => ?_⟩
    refine Yj (bM' W ⟨rk, rn, rt, none, rll, rlc, rta, rtl, rtc⟩ ns a s x.names R.length (j + 1) R (PJ (e + 1) R (l.take (j + 1))) F) ⟨⟨?_, rfl, .inl ⟨rfl, aJc (j + 1 + 1), [(1000, .cells (vmap (Rj.mk rk rn rt (some a) rll rlc rta rtl rtc).cells) tJs), (1001, o1J ⟨rk, rn, rt, some a, rll, rlc, rta, rtl, rtc⟩ ns (R.length + 1)), (1002, .cells (rowV encJ R ++ [iv s.k, iv s.n, sv s.t, .mt, sS1 1005 x.names.length]) tJs), (1003, .any (frz (PJ (e + 1) R (l.take (j + 1))))), (1004, oZJ), (1007, rS ns), (1005, rS x.names)], [(1000, 1000), (1001, 1001), (1002, 1102), (1003, 1003), (1004, 1004), (1007, 1007), (1005, 1100)], rfl, ⟨by kernel_rfl, by kernel_rfl, ⟨Ya, Ya, Ya, Ya, Ye⟩, ⟨_, rfl, Yc⟩, ⟨_, rfl, Yc⟩, ⟨_, rfl, ?_⟩, ⟨_, rfl, Yc⟩, ⟨_, rfl, Yc⟩, ⟨_, rfl, rSr rfl⟩, ⟨_, rfl, rSrr rfl⟩, Ye⟩, fun W0 F N ys w hs => ?_⟩⟩⟩
    ·simp only [Cnd.holds, e1, h1', aA, a1, a2, a3, a4, a5, k1, k2, k3, k4, Option.getD_some, Option.isSome_some, Nat.blt_eq, true_and, and_true]
     and_intros
     all_goals first
      | (with_reducible exact AP' hw)
      | exact A0' e1
      | exact CE' rfl rfl rfl rfl rfl | (with_reducible first | exact Ye | exact Yf | exact A4' _ | assumption) | exact Yf | ((repeat (first | exact VW.nil | refine Yg ?_ | refine Yh ?_ | refine Yi ?_)); done)
    ·refine OW.of_eq ?_
     rw [ktk]
     simp only [AO.ren, JF', AQ']
     rfl
    ·obtain ⟨r', hs'⟩ := QB' (X := []) (S := [1005]) ⟨i1, i2, i3⟩ hnb (fun n hn => .inl (List.mem_singleton.1 hn)) (List.mem_singleton.2 rfl) (.inl ⟨rfl, rfl, hz⟩) hs (fun R P => MQ' _ ⟨rfl, rfl, rfl⟩ _) (fun R1 P => QK' _ _ (R.length + 1) R1 P)
     refine ⟨⟨(j + 1 + 1, R ++ [r']), h1, by rw [List.length_append, hR]; rfl⟩, BD' h1, ?_⟩
     have hlr : (R ++ [r']).length = R.length + 1 := by rw [List.length_append]; rfl
     show St _ _ _ (oJc _ _ (sL5 1002 (R ++ [r']).length) (R ++ [r']) (PJ (e + 1) (R ++ [r']) (l.take (j + 1 + 1)))) (tms 0 35 (aJc (j + 1 + 1))) _ _
     rw [hnx, hlr]
     exact hs'
   ·refine ⟨[(fJc, cJn s e x.list x.names)], hJc (j + 1) s, [], fun F hF => AO' (V0' hcv hz F hF), fun _ _ => noL, fun F => ?_⟩
    refine Yj (bN' W ⟨rk, rn, rt, none, rll, rlc, rta, rtl, rtc⟩ ns a s e x.list x.names R.length (j + 1) R (PJ (e + 1) R (l.take (j + 1))) F) ⟨⟨?_, rfl, .inl ⟨rfl, aJc (j + 1 + 1), [(1000, .cells (vmap (Rj.mk rk rn rt (some a) rll rlc rta rtl rtc).cells) tJs), (1001, o1J ⟨rk, rn, rt, some a, rll, rlc, rta, rtl, rtc⟩ ns (R.length + 1)), (1002, .cells (rowV encJ R ++ [iv s.k, iv s.n, sv s.t, sL5 1006 x.list.length, sS1 1005 x.names.length]) tJs), (1003, .any (frz (PJ (e + 1) R (l.take (j + 1))))), (1004, oZJ), (1007, rS ns), (1005, rS x.names), (1006, ownJ e x.list)], [(1000, 1000), (1001, 1001), (1002, 1103), (1003, 1003), (1004, 1004), (1007, 1007), (1005, 1101), (1006, 1100)], rfl, ⟨by kernel_rfl, by kernel_rfl, ⟨Ya, Ya, Ya, Ya, Ye⟩, ⟨_, rfl, Yc⟩, ⟨_, rfl, Yc⟩, ⟨_, rfl, ?_⟩, ⟨_, rfl, Yc⟩, ⟨_, rfl, Yc⟩, ⟨_, rfl, rSr rfl⟩, ⟨_, rfl, rSrr rfl⟩, ⟨_, rfl, Yc⟩, Ye⟩, fun W0 F N ys w hs => ?_⟩⟩⟩
    ·simp only [Cnd.holds, e1, h1', aA, a1, a2, a3, a4, a5, k1, k2, k3, k4, Option.getD_some, Option.isSome_some, Nat.blt_eq, true_and, and_true]
     and_intros
     all_goals first
      | (with_reducible exact AP' hw)
      | exact A0' e1
      | exact CE' rfl rfl rfl rfl rfl | (with_reducible first | exact Ye | exact Yf | exact A4' _ | assumption) | exact Yf | ((repeat (first | exact VW.nil | refine Yg ?_ | refine Yh ?_ | refine Yi ?_)); done)
    ·refine OW.of_eq ?_
     rw [ktk]
     simp only [AO.ren, JF', AQ']
     rfl
    ·obtain ⟨r', hs'⟩ := QB' (X := [(1006, ownJ e x.list)]) (S := [1005, 1006]) ⟨i1, i2, i3⟩ hnb (fun n hn => by simpa using hn) (by simp) (.inr ⟨rfl, rfl, by simp⟩) hs (fun R P => MQ' _ ⟨rfl, rfl, rfl⟩ _) (fun R1 P => QK' _ _ (R.length + 1) R1 P)
     refine ⟨⟨(j + 1 + 1, R ++ [r']), h1, by rw [List.length_append, hR]; rfl⟩, BD' h1, ?_⟩
     have hlr : (R ++ [r']).length = R.length + 1 := by rw [List.length_append]; rfl
     show St _ _ _ (oJc _ _ (sL5 1002 (R ++ [r']).length) (R ++ [r']) (PJ (e + 1) (R ++ [r']) (l.take (j + 1 + 1)))) (tms 0 35 (aJc (j + 1 + 1))) _ _
     rw [hnx, hlr]
     exact hs'
 ·have hje : j = l.length := by omega
  subst hje
  obtain ⟨m, hm⟩ : ∃ m, l.length = m + 1 := ⟨l.length - 1, by have := List.length_pos_iff.2 hne; omega⟩
  have hst : oSJ r ns d l R l.length = oJc r ns (sL5 1002 R.length) R (PJ d R l) := by
   rw [hm]
   show oJc r ns (sL5 1002 R.length) R (PJ d R (l.take (m + 1))) = _
   rw [← hm, List.take_length]
  rw [hst]
  refine ⟨[], hJcE, [], fun _ _ => noC, fun _ _ => noL, fun F => ?_⟩
  obtain ⟨rk, rn, rt, rla, rll, rlc, rta, rtl, rtc⟩ := r
  simp only at hll
  subst hll
  refine Yj (bK' W ⟨rk, rn, rt, rla, l.length, rlc, rta, rtl, rtc⟩ ns R.length R (PJ d R l) F) ⟨⟨?_, rfl, .inr ⟨rfl, zJc, oJc ⟨rk, rn, rt, rla, l.length, rlc, rta, rtl, rtc⟩ ns (sL5 1002 R.length) R (PJ d R l), [(1000, 1000), (1001, 1001), (1002, 1002), (1003, 1003), (1004, 1004), (1007, 1007)], rfl, ⟨by kernel_rfl, by kernel_rfl, ⟨Ya, Ya, Ya, Ye⟩, ⟨_, rfl, Yc⟩, ⟨_, rfl, Yc⟩, ⟨_, rfl, OW.of_eq (by simp only [rJ, AO.ren, AQ'])⟩, ⟨_, rfl, Yc⟩, ⟨_, rfl, Yc⟩, ⟨_, rfl, rSr rfl⟩, Ye⟩, fun W0 F N ys w hs => ?_⟩⟩⟩
  ·simp only [Cnd.holds, and_true, true_and]
   exact A0' ltFC
  ·rw [hR] at hs
   exact QA' (H' := oJn ⟨rk, rn, rt, rla, l.length, rlc, rta, rtl, rtc⟩ ns d l) rfl rfl hs 1002 1003 (by decide) rfl rfl rfl rfl (fun n o h1 h2 h3 => by
    simp only [oJn, getO] at h3
    simp only [oJc, getO, if_neg h1, if_neg h2] at h3 ⊢
    exact h3) (fun N1 Di Dk h1 h2 h3 _ => ZF' hbig h1 h2 h3) (Q9' (A1' rfl (A1' rfl (A1' rfl A7')))) (A1' ⟨Ye, Ye, Ye, Ye, Ye, Ye⟩ (A1' ⟨Ye, Ye, Ye, rfl, rfl, Ye⟩ (A1' Ye (A1' ⟨Ye, Ye, Ye, Ye, Ye, Ye⟩ (A1' (H5' _ _) A7')))))
theorem XE' (W : World) (r : Rj) (ns : List ByteArray) (hll : r.ll = 0) : LTri Tryz.prog W (A2' fJc 3) (tms 0 35 (aJc 0)) (oJ0 r ns) (.exit 0) (tms 0 35 zJc) (oJ0 r ns) := by
 obtain ⟨rk, rn, rt, rla, rll, rlc, rta, rtl, rtc⟩ := r
 simp only at hll
 subst hll
 refine BW' (W := W) (g := fJc) (b := A2' fJc 3) (σ := Unit) 35 (fun _ => aJc 0) (fun _ => oJ0 ⟨rk, rn, rt, rla, 0, rlc, rta, rtl, rtc⟩ ns) (.exit 0) zJc (oJ0 ⟨rk, rn, rt, rla, 0, rlc, rta, rtl, rtc⟩ ns) (fun _ => 0) kJ [1, 2, 3, 4] (by intro h; cases h) (fun _ => rfl) rfl (fun _ => ?_) ()
 refine ⟨[], hJcE, [], fun _ _ => noC, fun _ _ => noL, fun F => ?_⟩
 refine Yj (bL' W ⟨rk, rn, rt, rla, 0, rlc, rta, rtl, rtc⟩ ns F) ⟨⟨?_, rfl, .inr ⟨rfl, [(1000, 1000), (1001, 1001), (1004, 1004), (1007, 1007)], by kernel_rfl, by kernel_rfl, ⟨Ya, Ya, Ya, Ye⟩, ⟨_, rfl, Yc⟩, ⟨_, rfl, Yc⟩, ⟨_, rfl, Yc⟩, ⟨_, rfl, rSr rfl⟩, Ye⟩⟩⟩
 simp only [Cnd.holds, and_true, true_and]
 exact A0' rfl
theorem TL' (r : Rj) (ns : List ByteArray) (K : Nat → Bool) (h : K 1007 = true) : ∀ x ∈ oJ0 r ns, x.2.cl K := A1' ⟨Ye, Ye, Ye, Ye, Ye, Ye⟩ (A1' ⟨Ye, Ye, Ye, Ye, h, Ye⟩ (A1' ⟨Ye, Ye, Ye, Ye, Ye, Ye⟩ (A1' (H5' _ _) A7')))
theorem U3' {W : World} {r : Rj} {ns : List ByteArray} (hll : r.ll = 0) (F : HP) (hF : AK' W F) : L1OK Tryz.prog F (A2' fJc 3) (lJz r ns) :=
 CL' hF YY' (fun _ _ => XE' W r ns hll) fun _ => by
  simp only [RT.pick]
  exact C0' rfl rfl (A1' rfl (A1' rfl (A1' rfl (A1' Ye A7')))) (TL' _ _ _ rfl) (A1' rfl (A1' rfl (A1' rfl A7'))) (TL' _ _ _ rfl)
theorem U4' {W : World} {r : Rj} {ns : List ByteArray} {d : Nat} {l : List Jv} (h : LTri Tryz.prog W (A2' fJc 3) (tms 0 35 (aJc 0)) (oJ0 r ns) (.exit 0) (tms 0 35 zJc) (oJn r ns d l)) (F : HP) (hF : AK' W F) : L1OK Tryz.prog F (A2' fJc 3) (lJn r ns d l) :=
 CL' hF YY' (fun _ _ => h) fun _ => by
  simp only [RT.pick]
  exact C0' rfl rfl (A1' rfl (A1' rfl (A1' rfl (A1' Ye A7')))) (TL' _ _ _ rfl) (A1' rfl (A1' rfl (A1' rfl A7'))) (A1' ⟨Ye, Ye, Ye, Ye, Ye, Ye⟩ (A1' ⟨Ye, Ye, Ye, rfl, rfl, Ye⟩ (A1' Ye (A1' ⟨Ye, Ye, Ye, Ye, Ye, Ye⟩ (A1' (H5' _ _) A7')))))
theorem DU' {W : World} {b : Addr} {ns : List ByteArray} (h : ∀ i x, ns[i]? = some x → W.cell? (b.add i) = some (.string x)) : ((List.range (ns.length * 1)).all fun j => (W.cell? (b.add j)).isSome) = true ∧ BG' W b (ns.length * 1) = ns.map Value.string := by
 rw [Nat.mul_one]
 refine ⟨List.all_eq_true.2 fun j hj => ?_, ?_⟩
 ·have hj := List.mem_range.1 hj
  obtain ⟨x, hx⟩ := BS' hj
  rw [h j x hx]; rfl
 ·unfold BG'
  refine List.ext_getElem (by simp) fun j h1 h2 => ?_
  have hj : j < ns.length := by simpa using h1
  simp only [List.getElem_map, List.getElem_range]
  rw [h j ns[j] (List.getElem?_eq_getElem hj)]
  rfl
theorem QG' (ns : List ByteArray) : rowV encS ns = vmap (ns.map Value.string) := by
 unfold rowV
 congr 1
 induction ns with
 | nil => rfl
 | cons a l ih => rw [List.flatMap_cons, List.map_cons, ih]; rfl
theorem T6' (ns : List ByteArray) : (vmap (ns.map Value.string)).all AV.one = true := by
 induction ns with
 | nil => rfl
 | cons a l ih => exact ih
theorem U9' (W : World) (d : Nat) (hV : ∀ v r, JAt W.cell? d v r → ∃ e, d = e + 1 ∧ JcOk W e v r) (v : Jv) (r : Rj) (h : JAt W.cell? (d + 1) v r) : JcOk W d v r := by
 obtain ⟨⟨i1, i2, i3, i4, i5⟩, hl, hf⟩ := h
 obtain ⟨rk, rn, rt, rla, rll, rlc, rta, rtl, rtc⟩ := r
 simp only at i1 i2 i3 i4 i5 hl hf
 constructor
 ·intro hz
  have hll : rll = 0 := by rw [i4, hz]; rfl
  rcases Nat.eq_zero_or_pos v.names.length with hn0 | hpos
  ·have hns : v.names = [] := List.eq_nil_of_length_eq_zero hn0
   rw [hns]
   rw [hn0] at i5
   subst i5
   cases rta with
   | none =>
    refine AD' (con := []) (hints := A9' [(fJc, 1, 9, h0v (sS1 1102 0))]) (lc := [(fJc, 3, A2' fJc 3, lJz ⟨rk, rn, rt, rla, rll, rlc, none, 0, rtc⟩ [])]) kF rfl (fun F _ => noC) (fun F hF => BV' (U3' hll F hF)) fun F => ?_
    refine Yj (bG' W ⟨rk, rn, rt, rla, rll, rlc, none, 0, rtc⟩ F) ⟨⟨?_, (AJ' (vs' := [.agg [iv rk, iv rn, sv rt, .mt, sS1 1001 0]]) (H' := [(1001, rS [])]) [(1001, 1107)] rfl rfl (VW.cons (LH' SB') VW.nil) ⟨⟨_, rfl, rSr (L := []) rfl⟩, Ye⟩).fits rfl⟩⟩
    simp only [AQ']
    simp only [Cnd.holds, AQ', Nat.blt_eq, true_and, and_true]
    and_intros
    all_goals first
     | exact G7' (Yd) | (with_reducible first | exact Ye | exact Yf | exact A4' _ | assumption) | exact Yf | ((repeat (first | exact VW.nil | refine Yg ?_ | refine Yh ?_ | refine Yi ?_)); done)
   | some b =>
    refine AD' (con := []) (hints := A9' [(fJc, 1, 9, h0v (sS1 1102 0))]) (lc := [(fJc, 3, A2' fJc 3, lJz ⟨rk, rn, rt, rla, rll, rlc, some b, 0, rtc⟩ [])]) kF rfl (fun F _ => noC) (fun F hF => BV' (U3' hll F hF)) fun F => ?_
    refine Yj (bE' W ⟨rk, rn, rt, rla, rll, rlc, none, 0, rtc⟩ b F) ⟨⟨?_, (AJ' (vs' := [.agg [iv rk, iv rn, sv rt, .mt, sS1 1001 0]]) (H' := [(1001, rS [])]) [(1001, 1107)] rfl rfl (VW.cons (LH' SB') VW.nil) ⟨⟨_, rfl, rSr (L := []) rfl⟩, Ye⟩).fits rfl⟩⟩
    simp only [AQ']
    simp only [Cnd.holds, AQ', Nat.blt_eq, true_and, and_true]
    and_intros
    all_goals first
     | exact G7' (Yd) | (with_reducible first | exact Ye | exact Yf | exact A4' _ | assumption) | exact Yf | ((repeat (first | exact VW.nil | refine Yg ?_ | refine Yh ?_ | refine Yi ?_)); done)
  ·obtain ⟨y, hy⟩ := BS' hpos
   obtain ⟨b, eb, _⟩ := hf.2 0 y hy
   subst eb
   subst i5
   have hnm : ∀ i x, v.names[i]? = some x → W.cell? (b.add i) = some (.string x) := fun i x hx => by
    obtain ⟨b', e1, e2⟩ := hf.2 i x hx
    cases e1
    exact e2
   have hnbig := hf.1
   have b1 : v.names.length.ble v.names.length = true := by rw [Nat.ble_eq]; exact Yd
   have b2 := (DU' hnm).1
   have b3 : (vmap (BG' W b (v.names.length * 1))).all AV.one = true := by rw [(DU' hnm).2]; exact T6' _
   have b4 : 0 < v.names.length := hpos
   have b5 : ((0 + v.names.length) * 16).ble 140737488355328 = true := by
    have hb : big = 140737488351232 := rfl
    rw [Nat.ble_eq]; omega
   have b6 : (0 + v.names.length).ble 9223372036854775807 = true := by
    have hb : big = 140737488351232 := rfl
    rw [Nat.ble_eq]; omega
   have b7 : 0 < 0 + v.names.length := by omega
   have b8 : OW (AO.cells ([] ++ vmap (BG' W b (v.names.length * 1))) tStr) (AO.cells (rowV encS v.names) tStr) := by rw [(DU' hnm).2, ← QG']; exact Yc
   have b9 : Wk (AV.slice 1103 0 (0 + v.names.length) 1 (Cp.lo (0 + v.names.length))) (AV.slice 1103 0 v.names.length 1 (Cp.lo v.names.length)) := by rw [Nat.zero_add]; exact Ya
   have b10 : OW (AO.cells (rowV encS v.names) tStr) (AO.cells (rowV encS v.names) tStr) := Yc
   refine AD' (con := []) (hints := A9' [(fJc, 1, 9, hvo (sS1 1103 v.names.length) 1103 (rS v.names))]) (lc := [(fJc, 3, A2' fJc 3, lJz ⟨rk, rn, rt, rla, rll, rlc, some b, v.names.length, rtc⟩ v.names)]) kF rfl (fun F _ => noC) (fun F hF => BV' (U3' hll F hF)) fun F => ?_
   refine Yj (bF' W ⟨rk, rn, rt, rla, rll, rlc, none, v.names.length, rtc⟩ b v.names F) ⟨⟨?_, (AJ' (vs' := [.agg [iv rk, iv rn, sv rt, .mt, sS1 1001 v.names.length]]) (H' := [(1001, rS v.names)]) [(1001, 1108)] rfl rfl (VW.cons (LH' SB') VW.nil) ⟨⟨_, rfl, rSrr rfl⟩, Ye⟩).fits rfl⟩⟩
   simp only [AQ']
   simp only [Cnd.holds, AQ', Nat.blt_eq, true_and, and_true]
   and_intros
   all_goals first
    | exact G7' (Yd)
    | (with_reducible exact b1)
    | exact b2
    | exact b3
    | (with_reducible exact b4)
    | (with_reducible exact b5)
    | (with_reducible exact b6)
    | exact b7
    | exact b8
    | exact b9
    | exact b10 | (with_reducible first | exact Ye | exact Yf | exact A4' _ | assumption) | exact Yf | ((repeat (first | exact VW.nil | refine Yg ?_ | refine Yh ?_ | refine Yi ?_)); done)
 ·intro hz
  have hll : rll = v.list.length := i4
  rcases Nat.eq_zero_or_pos v.names.length with hn0 | hpos
  ·have hns : v.names = [] := List.eq_nil_of_length_eq_zero hn0
   rw [hns]
   rw [hn0] at i5
   subst i5
   cases rta with
   | none =>
    refine AD' (con := []) (hints := A9' [(fJc, 1, 9, h0v (sS1 1102 0))]) (lc := [(fJc, 3, A2' fJc 3, lJn ⟨rk, rn, rt, rla, rll, rlc, none, 0, rtc⟩ [] d v.list)]) kF rfl (fun F _ => noC) (fun F hF => BV' (U4' (PA' W d hV [] v.list hz ⟨rk, rn, rt, rla, rll, rlc, none, 0, rtc⟩ hll hl) F hF)) fun F => ?_
    refine Yj (bJ' W ⟨rk, rn, rt, rla, rll, rlc, none, 0, rtc⟩ d v.list F) ⟨⟨?_, (AJ' (vs' := [.agg [iv rk, iv rn, sv rt, sL5 1000 v.list.length, sS1 1001 0]]) (H' := [(1000, ownJ d v.list), (1001, rS [])]) [(1000, 1106), (1001, 1108)] rfl rfl (Yb) ⟨⟨_, rfl, Yc⟩, ⟨_, rfl, rSr (L := []) rfl⟩, Ye⟩).fits rfl⟩⟩
    simp only [AQ']
    simp only [Cnd.holds, AQ', Nat.blt_eq, true_and, and_true]
    and_intros
    all_goals first
     | exact G7' (Yd) | (with_reducible first | exact Ye | exact Yf | exact A4' _ | assumption) | exact Yf | ((repeat (first | exact VW.nil | refine Yg ?_ | refine Yh ?_ | refine Yi ?_)); done)
   | some b =>
    refine AD' (con := []) (hints := A9' [(fJc, 1, 9, h0v (sS1 1102 0))]) (lc := [(fJc, 3, A2' fJc 3, lJn ⟨rk, rn, rt, rla, rll, rlc, some b, 0, rtc⟩ [] d v.list)]) kF rfl (fun F _ => noC) (fun F hF => BV' (U4' (PA' W d hV [] v.list hz ⟨rk, rn, rt, rla, rll, rlc, some b, 0, rtc⟩ hll hl) F hF)) fun F => ?_
    refine Yj (bH' W ⟨rk, rn, rt, rla, rll, rlc, none, 0, rtc⟩ b d v.list F) ⟨⟨?_, (AJ' (vs' := [.agg [iv rk, iv rn, sv rt, sL5 1000 v.list.length, sS1 1001 0]]) (H' := [(1000, ownJ d v.list), (1001, rS [])]) [(1000, 1106), (1001, 1108)] rfl rfl (Yb) ⟨⟨_, rfl, Yc⟩, ⟨_, rfl, rSr (L := []) rfl⟩, Ye⟩).fits rfl⟩⟩
    simp only [AQ']
    simp only [Cnd.holds, AQ', Nat.blt_eq, true_and, and_true]
    and_intros
    all_goals first
     | exact G7' (Yd) | (with_reducible first | exact Ye | exact Yf | exact A4' _ | assumption) | exact Yf | ((repeat (first | exact VW.nil | refine Yg ?_ | refine Yh ?_ | refine Yi ?_)); done)
  ·obtain ⟨y, hy⟩ := BS' hpos
   obtain ⟨b, eb, _⟩ := hf.2 0 y hy
   subst eb
   subst i5
   have hnm : ∀ i x, v.names[i]? = some x → W.cell? (b.add i) = some (.string x) := fun i x hx => by
    obtain ⟨b', e1, e2⟩ := hf.2 i x hx
    cases e1
    exact e2
   have hnbig := hf.1
   have b1 : v.names.length.ble v.names.length = true := by rw [Nat.ble_eq]; exact Yd
   have b2 := (DU' hnm).1
   have b3 : (vmap (BG' W b (v.names.length * 1))).all AV.one = true := by rw [(DU' hnm).2]; exact T6' _
   have b4 : 0 < v.names.length := hpos
   have b5 : ((0 + v.names.length) * 16).ble 140737488355328 = true := by
    have hb : big = 140737488351232 := rfl
    rw [Nat.ble_eq]; omega
   have b6 : (0 + v.names.length).ble 9223372036854775807 = true := by
    have hb : big = 140737488351232 := rfl
    rw [Nat.ble_eq]; omega
   have b7 : 0 < 0 + v.names.length := by omega
   have b8 : OW (AO.cells ([] ++ vmap (BG' W b (v.names.length * 1))) tStr) (AO.cells (rowV encS v.names) tStr) := by rw [(DU' hnm).2, ← QG']; exact Yc
   have b9 : Wk (AV.slice 1103 0 (0 + v.names.length) 1 (Cp.lo (0 + v.names.length))) (AV.slice 1103 0 v.names.length 1 (Cp.lo v.names.length)) := by rw [Nat.zero_add]; exact Ya
   have b10 : OW (AO.cells (rowV encS v.names) tStr) (AO.cells (rowV encS v.names) tStr) := Yc
   refine AD' (con := []) (hints := A9' [(fJc, 1, 9, hvo (sS1 1103 v.names.length) 1103 (rS v.names))]) (lc := [(fJc, 3, A2' fJc 3, lJn ⟨rk, rn, rt, rla, rll, rlc, some b, v.names.length, rtc⟩ v.names d v.list)]) kF rfl (fun F _ => noC) (fun F hF => BV' (U4' (PA' W d hV v.names v.list hz ⟨rk, rn, rt, rla, rll, rlc, some b, v.names.length, rtc⟩ hll hl) F hF)) fun F => ?_
   refine Yj (bI' W ⟨rk, rn, rt, rla, rll, rlc, none, v.names.length, rtc⟩ b v.names d v.list F) ⟨⟨?_, (AJ' (vs' := [.agg [iv rk, iv rn, sv rt, sL5 1000 v.list.length, sS1 1001 v.names.length]]) (H' := [(1000, ownJ d v.list), (1001, rS v.names)]) [(1000, 1107), (1001, 1109)] rfl rfl (Yb) ⟨⟨_, rfl, Yc⟩, ⟨_, rfl, rSrr rfl⟩, Ye⟩).fits rfl⟩⟩
   simp only [AQ']
   simp only [Cnd.holds, AQ', Nat.blt_eq, true_and, and_true]
   and_intros
   all_goals first
    | exact G7' (Yd)
    | (with_reducible exact b1)
    | exact b2
    | exact b3
    | (with_reducible exact b4)
    | (with_reducible exact b5)
    | (with_reducible exact b6)
    | exact b7
    | exact b8
    | exact b9
    | exact b10 | (with_reducible first | exact Ye | exact Yf | exact A4' _ | assumption) | exact Yf | ((repeat (first | exact VW.nil | refine Yg ?_ | refine Yh ?_ | refine Yi ?_)); done)
theorem YQ' (W : World) : ∀ (d : Nat) (v : Jv) (r : Rj), JAt W.cell? d v r → ∃ e, d = e + 1 ∧ JcOk W e v r
 | 0, _, _, h => h.elim
 | d + 1, v, r, h => ⟨d, rfl, U9' W d (YQ' W d) v r h⟩
theorem VO' (W : World) (d : Nat) (v : Jv) (r : Rj) (h : JAt W.cell? (d + 1) v r) : JcOk W d v r := U9' W d (YQ' W d) v r h
end Go.Proofs.YtdphpillcaajpaaGreatDoor.Js
namespace Go.Proofs.YtdphpillcaajpaaGreatDoor.Sp
open Go Go.RowKit Eng
theorem W3' {P : Program} {f : FuncId} {fn : Func} (hf : P.funcs[f]? = some fn) (hname : (fn.name == "runtime.NumGoroutine") = false)
  (hb : fn.body.isNone = true) (hn : (Extern.findNext fn).isNone = true) (he : Extern.find fn = some Extern.AbiNoEscape.same) (v : Value) (w : World) :
  (callFunc f #[v]).run P w = .ok (.value v) w := by
 rw [run_callFunc_extern hf hname hb (by simpa using hn) he]
 rfl
def pows : List Int := [1, 10, 100, 1000, 10000, 100000, 1000000, 10000000, 100000000, 1000000000, 10000000000, 100000000000, 1000000000000, 10000000000000, 100000000000000, 1000000000000000, 10000000000000000, 100000000000000000, 1000000000000000000, 10000000000000000000]
def firsts : List Int := [240, 240, 240, 240, 240, 240, 240, 240, 240, 240, 240, 240, 240, 240, 240, 240, 240, 240, 240, 240, 240, 240, 240, 240, 240, 240, 240, 240, 240, 240, 240, 240, 240, 240, 240, 240, 240, 240, 240, 240, 240, 240, 240, 240, 240, 240, 240, 240, 240, 240, 240, 240, 240, 240, 240, 240, 240, 240, 240, 240, 240, 240, 240, 240, 240, 240, 240, 240, 240, 240, 240, 240, 240, 240, 240, 240, 240, 240, 240, 240, 240, 240, 240, 240, 240, 240, 240, 240, 240, 240, 240, 240, 240, 240, 240, 240, 240, 240, 240, 240, 240, 240, 240, 240, 240, 240, 240, 240, 240, 240, 240, 240, 240, 240, 240, 240, 240, 240, 240, 240, 240, 240, 240, 240, 240, 240, 240, 240, 241, 241, 241, 241, 241, 241, 241, 241, 241, 241, 241, 241, 241, 241, 241, 241, 241, 241, 241, 241, 241, 241, 241, 241, 241, 241, 241, 241, 241, 241, 241, 241, 241, 241, 241, 241, 241, 241, 241, 241, 241, 241, 241, 241, 241, 241, 241, 241, 241, 241, 241, 241, 241, 241, 241, 241, 241, 241, 241, 241, 241, 241, 241, 241, 241, 241, 2, 2, 2, 2, 2, 2, 2, 2, 2, 2, 2, 2, 2, 2, 2, 2, 2, 2, 2, 2, 2, 2, 2, 2, 2, 2, 2, 2, 2, 2, 19, 3, 3, 3, 3, 3, 3, 3, 3, 3, 3, 3, 3, 35, 3, 3, 52, 4, 4, 4, 68, 241, 241, 241, 241, 241, 241, 241, 241, 241, 241, 241]
def accepts : List (Int × Int) := [(128, 191), (160, 191), (128, 159), (144, 191), (128, 143), (0, 0), (0, 0), (0, 0), (0, 0), (0, 0), (0, 0), (0, 0), (0, 0), (0, 0), (0, 0), (0, 0)]
def cfg : Cfg := { strs := [], ints := [], same := [86], clone := [], laid := [(5, pows.map (Value.int .u64)), (2, firsts.map (Value.int .u8)), (3, accepts.flatMap fun x => [Value.int .u8 x.1, .int .u8 x.2])] }
theorem cfg_ok : CfgOk Tryz.prog cfg where
 strs := fun x hx => by
  cases hx
 ints := fun x hx => by
  cases hx
 same := fun x hx => by
  obtain rfl := List.mem_singleton.1 hx
  exact W3' Tryz.func86 (by kernel_rfl) (by kernel_rfl) (by kernel_rfl) (by kernel_rfl)
 clone := fun x hx => by
  cases hx
theorem idle : Idle Tryz.prog 23 2 := by
 intro vs w hvs
 obtain ⟨l⟩ := vs
 match l, hvs with
 | [x, y], _ =>
  refine callsD_of_wpS Tryz.func23 rfl fun c₀ cs hu => ?_
  apply wpS_seq
  apply wpS_region
  simp [wpOpsS, go_sem, recoverD, hu, Tryz.ntmps23, Exit.thenS]
  apply wpS_seq
  apply wpS_region
  simp [wpOpsS, go_sem, recoverD, hu, Tryz.ntmps23, Exit.thenS]
  refine wpS_cond (t := false) (by simp [Act.eval, Array.replicate]) ?_
  simp only [Bool.false_eq_true, if_false]
  refine wpS_of_wp (wp_skip ?_)
  cases c₀
  simp_all [bodyPostS, results, Tryz.results23]
set_option maxRecDepth 1000000 in
theorem speaks_closed {w : World} (hL : HM' cfg w) : Calls Tryz.prog 5 #[] w fun e w' => e = .returned (.bool true) ∧ Below w.heap.size w w' :=
 O3' (fP := 10) (g := 23) (m := 2) (fuel' := 1000000) (args := []) cfg_ok (by kernel_rfl) (fun args w => EH' Tryz.func23 (by kernel_rfl) args w) idle (fuel := 1000000) (fun w => by kernel_rfl) hL
end Go.Proofs.YtdphpillcaajpaaGreatDoor.Sp
namespace Go.Proofs.YtdphpillcaajpaaGreatDoor.Js
open Go Go.RowKit Eng Kit
theorem N7' (s : ByteArray) : (AM' (bts s)).length ≤ 6 * s.size + 2 := by
 have := YI' s.size (bts s) (Yd)
 rw [BJ'] at this
 unfold AM'
 simp only [List.length_append, List.length_cons, List.length_nil]
 omega
theorem nameW (names : List ByteArray) : ∀ j, (((names.drop j).map fun n => n.size + 1).sum = (match names[j]? with | some n => n.size + 1 | none => 0) + ((names.drop (j + 1)).map fun n => n.size + 1).sum) := fun j => by
 cases h : names[j]? with
 | none =>
  have hl : names.length ≤ j := List.getElem?_eq_none_iff.1 h
  rw [List.drop_eq_nil_of_le hl, List.drop_eq_nil_of_le (by omega)]
  rfl
 | some n =>
  rw [I0' h, List.map_cons, List.sum_cons]
theorem O0' (f : Jv → List UInt8) (w : Jv → Nat) (obj : Bool) (names : List ByteArray) : ∀ (l : List Jv) (j : Nat), (∀ x ∈ l, (f x).length + 4 ≤ 16 * w x) → (BL' f obj names j l).length ≤ 16 * (l.map w).sum + 16 * ((names.drop j).map fun n => n.size + 1).sum
 | [], j, _ => Nat.zero_le _
 | x :: l, j, h => by
  have ih := O0' f w obj names l (j + 1) fun y hy => h y (List.mem_cons_of_mem _ hy)
  have hx := h x List.mem_cons_self
  have hn := nameW names j
  rw [BL', List.length_append, List.map_cons, List.sum_cons, hn]
  have h1 : ((if 0 < j then [44] else []) : List UInt8).length ≤ 1 := by split <;> simp
  have h2 : ((if obj then AM' (bts (names.getD j nil0)) ++ [58] else []) : List UInt8).length ≤ 3 + 16 * (match names[j]? with | some n => n.size + 1 | none => 0) := by
   split
   ·rw [List.length_append]
    have := N7' (names.getD j nil0)
    rw [List.getD_eq_getElem?_getD] at this ⊢
    cases hq : names[j]? with
    | none =>
     rw [hq] at this
     simp only [Option.getD_none, List.length_cons, List.length_nil] at *
     have hz : nil0.size = 0 := rfl
     omega
    | some n =>
     rw [hq] at this
     simp only [Option.getD_some, List.length_cons, List.length_nil] at *
     omega
   ·exact Nat.zero_le _
  rw [List.length_append, List.length_append]
  omega
theorem J4' {C : Mem} : ∀ (d : Nat) (v : Jv) (r : Rj), JAt C d v r → (B3' d v).length + 4 ≤ 16 * wJ d v
 | 0, v, _, h => h.elim
 | d + 1, v, r, h => by
  have hw : wJ (d + 1) v = 1 + v.text.size + (v.names.map fun n => n.size + 1).sum + (v.list.map (wJ d)).sum := rfl
  have he : ∀ obj, (BL' (B3' d) obj v.names 0 v.list).length ≤ 16 * (v.list.map (wJ d)).sum + 16 * (v.names.map fun n => n.size + 1).sum := fun obj => by
   have := O0' (B3' d) (wJ d) obj v.names v.list 0 fun x hx => by
    obtain ⟨i, hi⟩ := List.getElem?_of_mem hx
    obtain ⟨a, r', _, _, hj⟩ := h.2.1.2 i x hi
    exact J4' d x r' hj
   rw [List.drop_zero] at this
   exact this
  rw [B3', hw]
  split
  ·simp only [List.length_cons, List.length_nil]; omega
  split
  ·rw [BJ']; have := (LV' (v.num == Int.ofNat 1)).1; omega
  split
  ·rw [BJ']; omega
  split
  ·have := N7' v.text; omega
  split
  ·have := he false
   simp only [List.length_append, List.length_cons, List.length_nil]; omega
  ·have := he true
   simp only [List.length_append, List.length_cons, List.length_nil]; omega
noncomputable section
abbrev fLw : Nat := 3
abbrev fSpk : Nat := 5
def cSpk : List AV → Option (AP AV) := mkC (fun _ => .ret ()) (fun _ => True) (fun _ k => k) (fun _ => []) (fun _ => []) (fun _ => .leaf .ret [bv true] [])
def resT (s : ByteArray) (e : Int) : AV := .tuple [sv s, iv e]
def gZ5 (v : AV) : AP Nat := match v with
 | .agg [_, _, _, _, .slice b _ _ _ _] => .ret b
 | _ => .fail "a copy"
def gN5 (v : AV) : AP (Nat × Nat) := match v with
 | .agg [_, _, _, .slice a _ _ _ _, .slice b _ _ _ _] => .ret (a, b)
 | _ => .fail "a copy"
def gZa (args : List AV) : AP Nat := match args with
 | [x] => gZ5 x
 | [x, _] => gZ5 x
 | _ => .fail "a copy"
def gNa (args : List AV) : AP (Nat × Nat) := match args with
 | [x] => gN5 x
 | [x, _] => gN5 x
 | _ => .fail "a copy"
def nmN (q : Nat × Nat) : Nat → Nat := fun k => match Nat.beq k 0 with
 | true => q.1
 | false => q.2
def aZ5 (r : Rj) (ns : List ByteArray) : AV := .agg [iv r.k, iv r.n, sv r.t, .mt, sS1 1 ns.length]
def aN5 (r : Rj) (ns : List ByteArray) (l : List Jv) : AV := .agg [iv r.k, iv r.n, sv r.t, sL5 0 l.length, sS1 1 ns.length]
def cWoZ (r : Rj) (ns : List ByteArray) (s : ByteArray) (e : Int) : List AV → Option (AP AV) := mkC gZa (fun _ => True) (fun b _ => b) (fun _ => [aZ5 r ns]) (fun _ => [(1, rS ns)]) (fun _ => .leaf .ret [resT s e] [(1, rS ns)])
def cWoN (r : Rj) (ns : List ByteArray) (d : Nat) (l : List Jv) (s : ByteArray) (e : Int) : List AV → Option (AP AV) := mkC gNa (fun _ => True) nmN (fun _ => [aN5 r ns l]) (fun _ => [(0, ownJ d l), (1, rS ns)]) (fun _ => .leaf .ret [resT s e] [(0, ownJ d l), (1, rS ns)])
def cRWr (r : Rj) (s : ByteArray) (e : Int) : List AV → Option (AP AV) := mkC (fun _ => .ret ()) (fun _ => True) (fun _ k => k) (fun _ => [aggJ r]) (fun _ => []) (fun _ => .leaf .ret [resT s e] [])
def cSoZ (r : Rj) (ns : List ByteArray) : List AV → Option (AP AV) := mkC gZa (fun _ => True) (fun b _ => b) (fun _ => [aZ5 r ns, aggJ r]) (fun _ => [(1, rS ns)]) (fun _ => .leaf .ret [bv true] [(1, rS ns)])
def cSoN (r : Rj) (ns : List ByteArray) (d : Nat) (l : List Jv) : List AV → Option (AP AV) := mkC gNa (fun _ => True) nmN (fun _ => [aN5 r ns l, aggJ r]) (fun _ => [(0, ownJ d l), (1, rS ns)]) (fun _ => .leaf .ret [bv true] [(0, ownJ d l), (1, rS ns)])
def hLw : B8' := A9' [(fLw, 1, 1, hv (.lit false)), (fLw, 6, 2, hv (.lit true)), (fLw, 6, 6, hv (.lit true))]
noncomputable section
abbrev k133' (q0 : Rj) (q1 : Nat) (q2 : List ByteArray) : Cnd := ((p' (true = true)).a (f' ([z' q0.k,z' q0.n,s' q0.t,AV.mt,AV.slice q1 0 q2.length 1 (Cp.lo q2.length)] = [z' q0.k,z' q0.n,s' q0.t,AV.mt,AV.slice q1 0 q2.length 1 (Cp.lo q2.length)])))
abbrev k134' (q0 : ByteArray) : Cnd := (f' (Wk (b' (q0.toList == q0.toList)) j'))
end
theorem bC' (W : World) (r : Rj) (ns : List ByteArray) (s : ByteArray) (e : Int) (F : HP) : wRun [(fSpk, cSpk), (fJc, cJz r ns), (fWr, cWoZ r ns s e), (fRW, cRWr r s e), (fSa, cSoZ r ns)] hLw [] W fLw [aggJ r] [] [] F = VT.leaf (b' true) [] 1103 (((Cnd.p True).a (f' (VW [] []))).a (k32'.a ((k68' r).a ((k103' r).a (k8'.a ((k133' r 1101 ns).a (((Cnd.p True).a ((p' (VW [AV.agg [z' r.k,z' r.n,s' r.t,AV.mt,AV.slice 1101 0 ns.length 1 (Cp.lo ns.length)]] [AV.agg [z' r.k,z' r.n,s' r.t,AV.mt,AV.slice 1101 0 ns.length 1 (Cp.lo ns.length)]])).a (f' (OW (AO.cells (AV.rens (sgN (fun k => k) [1001] 1101) (rowV encS ns)) 18) (AO.cells (AV.rens (fun x => 1101) (rowV encS ns)) 18))))).a ((k68' r).a ((k103' r).a ((f' (Wk (b' (e == e)) j')).a ((k134' s).a ((k133' r 1101 ns).a ((k68' r).a (((Cnd.p True).a ((p' (VW [AV.agg [z' r.k,z' r.n,s' r.t,AV.mt,AV.slice 1101 0 ns.length 1 (Cp.lo ns.length)],AV.agg [z' r.k,z' r.n,s' r.t,AV.v (Value.slice r.la r.ll r.lc),AV.v (Value.slice r.na r.nl r.nc)]] [AV.agg [z' r.k,z' r.n,s' r.t,AV.mt,AV.slice 1101 0 ns.length 1 (Cp.lo ns.length)],AV.agg [z' r.k,z' r.n,s' r.t,AV.v (Value.slice r.la r.ll r.lc),AV.v (Value.slice r.na r.nl r.nc)]])).a (f' (OW (AO.cells (AV.rens (sgN (fun x => 1101) [] 0) (rowV encS ns)) 18) (AO.cells (AV.rens (fun x => 1101) (rowV encS ns)) 18))))).a t')))))))))))))) := by kernel_rfl
theorem bD' (W : World) (r : Rj) (ns : List ByteArray) (d : Nat) (l : List Jv) (s : ByteArray) (e : Int) (F : HP) : wRun [(fSpk, cSpk), (fJc, cJn r d l ns), (fWr, cWoN r ns d l s e), (fRW, cRWr r s e), (fSa, cSoN r ns d l)] hLw [] W fLw [aggJ r] [] [] F = VT.leaf (b' true) [] 1104 (((Cnd.p True).a (f' (VW [] []))).a (k32'.a ((k68' r).a ((k103' r).a (k8'.a ((k132' r 1101 l 1102 ns).a (((Cnd.p True).a ((p' (VW [AV.agg [z' r.k,z' r.n,s' r.t,AV.slice 1101 0 l.length 5 (Cp.lo l.length),AV.slice 1102 0 ns.length 1 (Cp.lo ns.length)]] [AV.agg [z' r.k,z' r.n,s' r.t,AV.slice 1101 0 l.length 5 (Cp.lo l.length),AV.slice 1102 0 ns.length 1 (Cp.lo ns.length)]])).a ((p' (OW (AO.own mdJ fun b x => Tree.frz fun C => LOf (JAt C d) C (some (Addr.mk b 0 none)) l) (AO.own mdJ fun b x => Tree.frz fun C => LOf (JAt C d) C (some (Addr.mk b 0 none)) l))).a (f' (OW (AO.cells (AV.rens (sgN (fun k => k) [1000,1001] 1101) (rowV encS ns)) 18) (AO.cells (AV.rens (nmN (1101,1102)) (rowV encS ns)) 18)))))).a ((k68' r).a ((k103' r).a ((f' (Wk (b' (e == e)) j')).a ((k134' s).a ((k132' r 1101 l 1102 ns).a ((k68' r).a (((Cnd.p True).a ((p' (VW [AV.agg [z' r.k,z' r.n,s' r.t,AV.slice 1101 0 l.length 5 (Cp.lo l.length),AV.slice 1102 0 ns.length 1 (Cp.lo ns.length)],AV.agg [z' r.k,z' r.n,s' r.t,AV.v (Value.slice r.la r.ll r.lc),AV.v (Value.slice r.na r.nl r.nc)]] [AV.agg [z' r.k,z' r.n,s' r.t,AV.slice 1101 0 l.length 5 (Cp.lo l.length),AV.slice 1102 0 ns.length 1 (Cp.lo ns.length)],AV.agg [z' r.k,z' r.n,s' r.t,AV.v (Value.slice r.la r.ll r.lc),AV.v (Value.slice r.na r.nl r.nc)]])).a ((p' (OW (AO.own mdJ fun b x => Tree.frz fun C => LOf (JAt C d) C (some (Addr.mk b 0 none)) l) (AO.own mdJ fun b x => Tree.frz fun C => LOf (JAt C d) C (some (Addr.mk b 0 none)) l))).a (f' (OW (AO.cells (AV.rens (sgN (nmN (1101,1102)) [] 0) (rowV encS ns)) 18) (AO.cells (AV.rens (nmN (1101,1102)) (rowV encS ns)) 18)))))).a t')))))))))))))) := by kernel_rfl
end
open Tree (C9' LQ' HW')
structure LW3 (W : World) : Prop extends LWQ W where
 laid : HM' Sp.cfg W
variable {W : World}
theorem LWQ.stays {W w : World} (h : LWQ W) (hs : MS' W w) : LWQ w := ⟨⟨fun c hc => hs.cell (h.tabs.1 c hc), fun i hi => ⟨hs.cell (h.tabs.2 i hi).1, hs.cell (h.tabs.2 i hi).2⟩⟩⟩
theorem eA' (hL : HM' Sp.cfg W) : Tri Tryz.prog W fSpk [] [] (bv true) [] := SL' fun W0 F N w vargs hF hNB r ha => by
 have hva : vargs = #[] := by
  apply Array.ext'
  simpa only [VRs] using ha
 subst hva
 obtain ⟨D0, D, h1, h2, h3⟩ := r.sat
 have hs : MS' W w := hF D0 w h1
 exact Sp.speaks_closed fun x hx j v hv => hs.cell (hL x hx j v hv)
theorem UX' (hL : HM' Sp.cfg W) (F : HP) (hF : AK' W F) : C1OK Tryz.prog F fSpk cSpk :=
 BR' hF (fun _ => bv true) (fun _ => RO.ret _) (fun _ => rfl) (fun _ _ => eA' hL) fun _ => ⟨rfl, rfl, Ye, A7', ⟨Ye, Ye⟩, A7'⟩
theorem M4' {w : World} {f : FuncId} {A : List AV} {vargs : Array Value} {v : AV} {x : Value} (h : Tri Tryz.prog w f A [] v []) (hA : VRs (fun _ => none) A vargs.toList) (hx : ∀ N y, VR N v y → y = x) : Calls Tryz.prog f vargs w fun e w' => e = .returned x ∧ Below w.heap.size w w' := by
 refine (h w (HP.old w) (fun _ => none) w _ (WA' w) (fun _ _ _ => rfl) (OV' w) hA).mono ?_
 rintro e w' ⟨y, rfl, N', _, _, r', hv⟩
 have hy : y = x := hx _ _ (AB'.1 hv).1
 subst hy
 exact ⟨rfl, r'.old_below⟩
theorem KV' {f : FuncId} {A : List AV} {H : LH} {x : Value} {v : AV} (hv : ∀ N, VR N v x) (h : ∀ (W0 : World) (F : HP) (N : A8') (w : World) (vargs : Array Value), AK' W F → NB N H → Rep W0 N F (AX' H) w → VRs N A vargs.toList → Calls Tryz.prog f vargs w fun e w' => e = .returned x ∧ Below w.heap.size w w') : Tri Tryz.prog W f A H v H := by
 intro W0 F N w vargs hF hNB r ha
 refine (h W0 F N w vargs hF hNB r ha).mono ?_
 rintro e w' ⟨rfl, hb⟩
 exact ⟨x, rfl, N, fun _ _ => rfl, hNB, r.below hb, AB'.2 ⟨hv _, AN'⟩⟩
theorem vrs1J {N : A8'} {x1 : AV} {vargs : Array Value} (h : VRs N [x1] vargs.toList) : ∃ y1, VR N x1 y1 ∧ vargs = #[y1] := by
 simp only [VRs] at h
 obtain ⟨y1, r1, h1, rfl, hl⟩ := h
 exact ⟨y1, h1, by cases vargs; simp_all⟩
theorem vrs2J {N : A8'} {x1 x2 : AV} {vargs : Array Value} (h : VRs N [x1, x2] vargs.toList) : ∃ y1 y2, VR N x1 y1 ∧ VR N x2 y2 ∧ vargs = #[y1, y2] := by
 simp only [VRs] at h
 obtain ⟨y1, r1, h1, ⟨y2, r2, h2, rfl, rfl⟩, hl⟩ := h
 exact ⟨y1, y2, h1, h2, by cases vargs; simp_all⟩
theorem Y0' {N : A8'} {r : Rj} {y : Value} (h : VR N (aggJ r) y) : y = .agg r.cells.toArray := by
 have h : VR N (.agg (vmap r.cells)) y := h
 simp only [VR] at h
 obtain ⟨cs, h1, rfl⟩ := h
 rw [VRs.of_vmap h1]
theorem MI' (N : A8') (r : Rj) : VR N (aggJ r) (.agg r.cells.toArray) := by
 show VR N (.agg (vmap r.cells)) _
 simp only [VR]
 exact ⟨r.cells, VRs.vmap r.cells, rfl⟩
theorem QI' {W0 w : World} {F : HP} {N : A8'} {H : LH} (hl : AF' 1100 H = true) (rep : Rep W0 N F (AX' H) w) {d : Nat} {v : Jv} {x : Rj} (hx : x.k = v.kind ∧ x.n = v.num ∧ x.t = v.text) (hb : v.names.length * 16 ≤ big) {LV : AV} {kt : Nat} (hkt : getO H kt = some (rS v.names))
  (hLV : (LV = .mt ∧ v.list = []) ∨ ∃ kl, LV = sL5 kl v.list.length ∧ getO H kl = some (ownJ d v.list)) {y : Value} (hy : VR N (.agg [iv x.k, iv x.n, sv x.t, LV, sS1 kt v.names.length]) y) : ∃ r', y = .agg r'.cells.toArray ∧ JAt w.cell? (d + 1) v r' := by
 obtain ⟨D0, D, h1, h2, h3⟩ := rep.sat
 have hD : ∀ n o, getO H n = some o → OR N n o (D n) w := fun n o hn => (h2 n o (by rw [B2' (NH' hl)]; exact hn)).1
 simp only [VR] at hy
 obtain ⟨cs, hcs, rfl⟩ := hy
 have hLV' : ∀ y, VR N LV y → ∃ la lc, y = .slice la v.list.length lc ∧ LOf (JAt (C9' (fun _ => True) w) d) (C9' (fun _ => True) w) la v.list := by
  rcases hLV with ⟨rfl, h0⟩ | ⟨kl, rfl, hk⟩
  ·exact P0' h0
  ·exact JL' hD hk fun _ _ => trivial
 obtain ⟨c, _, c2, r', rfl, hj⟩ := K3' (d := d) hx hb hD hkt (fun _ _ => trivial) hLV' cs hcs
 rw [VRs.of_vmap c2]
 exact ⟨r', rfl, hj.mono fun a u ha => (HW' ha).2⟩
noncomputable def wrS (d : Nat) (v : Jv) : ByteArray := if errJ d v 1 = 0 then tB (B3' d v) else nil0
theorem S9' (hW : LWQ W) {d : Nat} {v : Jv} {r : Rj} (h : JAt W.cell? d v r) (hw : wJ d v ≤ 4000000) : Tri Tryz.prog W fWr [aggJ r] [] (resT (wrS d v) (errJ d v 1)) [] := by
 unfold wrS
 have hl := J4' d v r h
 by_cases he : errJ d v 1 = 0
 ·rw [if_pos he, he]; exact VP' hW h hw he (by omega)
 ·rw [if_neg he]; exact S8' h hw he
theorem S5' {d : Nat} {v : Jv} {r : Rj} (h : JAt W.cell? d v r) (hw : wJ d v ≤ 4000000) : Tri Tryz.prog W fRW [aggJ r] [] (resT (wrS d v) (errJ d v 1)) [] := by
 unfold wrS
 have hl := J4' d v r h
 by_cases he : errJ d v 1 = 0
 ·rw [if_pos he, he]; exact VK' h hw he (by omega)
 ·rw [if_neg he]; exact S4' h hw he
theorem ZS' (N : A8') (s : ByteArray) (e : Int) : VR N (resT s e) (.tuple #[.string s, .int .i64 e]) := vr_t2 N _ _
theorem W5' {N : A8'} {s : ByteArray} {e : Int} {y : Value} (h : VR N (resT s e) y) : y = .tuple #[.string s, .int .i64 e] := by
 unfold resT at h
 simp only [VR, VRs] at h
 obtain ⟨cs, ⟨a, r1, rfl, ⟨b, r2, rfl, rfl, rfl⟩, rfl⟩, rfl⟩ := h
 rfl
theorem OM' (hW : LWQ W) {H : LH} (hl : AF' 1100 H = true) {d : Nat} {v : Jv} {x : Rj} (hx : x.k = v.kind ∧ x.n = v.num ∧ x.t = v.text) (hb : v.names.length * 16 ≤ big) {LV : AV} {kt : Nat} (hkt : getO H kt = some (rS v.names)) (hLV : (LV = .mt ∧ v.list = []) ∨ ∃ kl, LV = sL5 kl v.list.length ∧ getO H kl = some (ownJ d v.list)) (hw : wJ (d + 1) v ≤ 4000000) :
  Tri Tryz.prog W fWr [.agg [iv x.k, iv x.n, sv x.t, LV, sS1 kt v.names.length]] H (resT (wrS (d + 1) v) (errJ (d + 1) v 1)) H :=
 KV' (fun N => ZS' N _ _) fun W0 F N w vargs hF hNB r ha => by
  obtain ⟨y, hy, rfl⟩ := vrs1J ha
  obtain ⟨r', rfl, hj⟩ := QI' hl r hx hb hkt hLV hy
  obtain ⟨D0, D, h1, h2, h3⟩ := r.sat
  have hs : MS' W w := hF D0 w h1
  exact M4' (S9' (hW.stays hs) hj hw) (AB'.2 ⟨MI' _ _, AN'⟩) fun N y h => W5' h
theorem R9' {H : LH} (hl : AF' 1100 H = true) {d : Nat} {v : Jv} {x : Rj} (hx : x.k = v.kind ∧ x.n = v.num ∧ x.t = v.text) (hb : v.names.length * 16 ≤ big) {LV : AV} {kt : Nat} (hkt : getO H kt = some (rS v.names)) (hLV : (LV = .mt ∧ v.list = []) ∨ ∃ kl, LV = sL5 kl v.list.length ∧ getO H kl = some (ownJ d v.list)) (hj : JAt W.cell? (d + 1) v x) :
  Tri Tryz.prog W fSa [.agg [iv x.k, iv x.n, sv x.t, LV, sS1 kt v.names.length], aggJ x] H (bv true) H :=
 KV' (fun N => VR_v.2 rfl) fun W0 F N w vargs hF hNB r ha => by
  obtain ⟨y, y2, hy, hy2, rfl⟩ := vrs2J ha
  obtain ⟨r', rfl, hj'⟩ := QI' hl r hx hb hkt hLV hy
  obtain rfl := Y0' hy2
  obtain ⟨D0, D, h1, h2, h3⟩ := r.sat
  have hs : MS' W w := hF D0 w h1
  exact M4' (R8' w (d + 1) v r' x hj' (hj.mono fun a u ha => hs.cell ha)) (AB'.2 ⟨MI' _ _, AB'.2 ⟨MI' _ _, AN'⟩⟩) fun N y h => VR_v.1 h
theorem YU' (args : List AV) : RO (gZa args) := by
 unfold gZa gZ5
 repeat' split
 all_goals first | exact RO.ret _ | exact RO.fail _
theorem YX' (args : List AV) : RO (gNa args) := by
 unfold gNa gN5
 repeat' split
 all_goals first | exact RO.ret _ | exact RO.fail _
theorem OU' (K : Nat → Bool) (s : ByteArray) (e : Int) : AV.cls K [resT s e] := ⟨⟨Ye, Ye, Ye⟩, Ye⟩
theorem Writes_tri (hW : LW3 W) {d : Nat} {v : Jv} {r : Rj} (h : JAt W.cell? (d + 1) v r) (hw : wJ (d + 1) v ≤ 4000000) : Tri Tryz.prog W fLw [aggJ r] [] (bv true) [] := by
 have hc := VO' W d v r h
 have hx : r.k = v.kind ∧ r.n = v.num ∧ r.t = v.text := ⟨h.1.1, h.1.2.1, h.1.2.2.1⟩
 have hb : v.names.length * 16 ≤ big := h.2.2.1
 have e1 : (errJ (d + 1) v 1 == errJ (d + 1) v 1) = true := beq_self_eq_true _
 have e2 : ((wrS (d + 1) v).toList == (wrS (d + 1) v).toList) = true := beq_self_eq_true _
 have hrw : ∀ F, AK' W F → C1OK Tryz.prog F fRW (cRWr r (wrS (d + 1) v) (errJ (d + 1) v 1)) := fun F hF =>
  BR' hF (fun _ => resT (wrS (d + 1) v) (errJ (d + 1) v 1)) (fun _ => RO.ret _) (fun _ => rfl) (fun _ _ => S5' h hw) fun _ => ⟨rfl, rfl, ⟨K9' _ _, Ye⟩, A7', OU' _ _ _, A7'⟩
 by_cases hz : v.list = []
 ·have hwo : ∀ F, AK' W F → C1OK Tryz.prog F fWr (cWoZ r v.names (wrS (d + 1) v) (errJ (d + 1) v 1)) := fun F hF =>
   BR' hF (fun _ => resT (wrS (d + 1) v) (errJ (d + 1) v 1)) YU' (fun _ => rfl) (fun _ _ => OM' hW.toLWQ (H := [(1, rS v.names)]) rfl hx hb (kt := 1) rfl (.inl ⟨rfl, hz⟩) hw) fun _ => ⟨rfl, rfl, ⟨⟨Ye, Ye, Ye, Ye, rfl, Ye⟩, Ye⟩, A1' (H5' _ _) A7', OU' _ _ _, A1' (H5' _ _) A7'⟩
  have hso : ∀ F, AK' W F → C1OK Tryz.prog F fSa (cSoZ r v.names) := fun F hF =>
   BR' hF (fun _ => bv true) YU' (fun _ => rfl) (fun _ _ => R9' (d := d) (H := [(1, rS v.names)]) rfl hx hb (kt := 1) rfl (.inl ⟨rfl, hz⟩) h) fun _ => ⟨rfl, rfl, ⟨⟨Ye, Ye, Ye, Ye, rfl, Ye⟩, K9' _ _, Ye⟩, A1' (H5' _ _) A7', ⟨Ye, Ye⟩, A1' (H5' _ _) A7'⟩
  refine AD' (con := [(fSpk, cSpk), (fJc, cJz r v.names), (fWr, cWoZ r v.names (wrS (d + 1) v) (errJ (d + 1) v 1)), (fRW, cRWr r (wrS (d + 1) v) (errJ (d + 1) v 1)), (fSa, cSoZ r v.names)]) (hints := hLw) (lc := []) [] rfl (fun F hF => AC' (UX' hW.laid F hF) (AC' (UZ' hc hz F hF) (AC' (hwo F hF) (AC' (hrw F hF) (AO' (hso F hF)))))) (fun F _ => noL) fun F => ?_
  refine Yj (bC' W r v.names (wrS (d + 1) v) (errJ (d + 1) v 1) F) ⟨⟨?_, (AJ' (vs' := [bv true]) (H' := []) [] rfl rfl (Yb) trivial).fits rfl⟩⟩
  simp only [AQ']
  simp only [Cnd.holds, AQ', Nat.blt_eq, true_and, and_true]
  and_intros
  all_goals first
   | exact A0' e1
   | exact A0' e2
   | exact A0' rfl | (with_reducible first | exact Ye | exact Yf | exact A4' _ | assumption) | exact Yf | ((repeat (first | exact VW.nil | refine Yg ?_ | refine Yh ?_ | refine Yi ?_)); done)
 ·have hwo : ∀ F, AK' W F → C1OK Tryz.prog F fWr (cWoN r v.names d v.list (wrS (d + 1) v) (errJ (d + 1) v 1)) := fun F hF =>
   BR' hF (fun _ => resT (wrS (d + 1) v) (errJ (d + 1) v 1)) YX' (fun _ => rfl) (fun _ _ => OM' hW.toLWQ (H := [(0, ownJ d v.list), (1, rS v.names)]) rfl hx hb (kt := 1) rfl (.inr ⟨0, rfl, rfl⟩) hw) fun _ => ⟨rfl, rfl, ⟨⟨Ye, Ye, Ye, rfl, rfl, Ye⟩, Ye⟩, A1' Ye (A1' (H5' _ _) A7'), OU' _ _ _, A1' Ye (A1' (H5' _ _) A7')⟩
  have hso : ∀ F, AK' W F → C1OK Tryz.prog F fSa (cSoN r v.names d v.list) := fun F hF =>
   BR' hF (fun _ => bv true) YX' (fun _ => rfl) (fun _ _ => R9' (d := d) (H := [(0, ownJ d v.list), (1, rS v.names)]) rfl hx hb (kt := 1) rfl (.inr ⟨0, rfl, rfl⟩) h) fun _ => ⟨rfl, rfl, ⟨⟨Ye, Ye, Ye, rfl, rfl, Ye⟩, K9' _ _, Ye⟩, A1' Ye (A1' (H5' _ _) A7'), ⟨Ye, Ye⟩, A1' Ye (A1' (H5' _ _) A7')⟩
  refine AD' (con := [(fSpk, cSpk), (fJc, cJn r d v.list v.names), (fWr, cWoN r v.names d v.list (wrS (d + 1) v) (errJ (d + 1) v 1)), (fRW, cRWr r (wrS (d + 1) v) (errJ (d + 1) v 1)), (fSa, cSoN r v.names d v.list)]) (hints := hLw) (lc := []) [] rfl (fun F hF => AC' (UX' hW.laid F hF) (AC' (V0' hc hz F hF) (AC' (hwo F hF) (AC' (hrw F hF) (AO' (hso F hF)))))) (fun F _ => noL) fun F => ?_
  refine Yj (bD' W r v.names d v.list (wrS (d + 1) v) (errJ (d + 1) v 1) F) ⟨⟨?_, (AJ' (vs' := [bv true]) (H' := []) [] rfl rfl (Yb) trivial).fits rfl⟩⟩
  simp only [AQ']
  simp only [Cnd.holds, AQ', Nat.blt_eq, true_and, and_true]
  and_intros
  all_goals first
   | exact A0' e1
   | exact A0' e2
   | exact A0' rfl | (with_reducible first | exact Ye | exact Yf | exact A4' _ | assumption) | exact Yf | ((repeat (first | exact VW.nil | refine Yg ?_ | refine Yh ?_ | refine Yi ?_)); done)
theorem writes_calls {r : Rj} (h : Tri Tryz.prog W fLw [aggJ r] [] (bv true) []) : Calls Tryz.prog fLw #[.agg r.cells.toArray] W fun e W' => e = .returned (.bool true) ∧ Below W.heap.size W W' :=
 M4' h (AB'.2 ⟨MI' _ _, AN'⟩) fun N y hy => VR_v.1 hy
end Go.Proofs.YtdphpillcaajpaaGreatDoor.Js
namespace Go.Proofs.YtdphpillcaajpaaGreatDoor
open Go
open Go.ChangeShapes Go.WideShapes Go.RowKit Go.Deep
section
variable {H : Type} {enc : TypeId × Value → H} {P : Program} {w : World} {base : Nat} {spare : Nat → Bool} {held : Bool}
def VN' (P : Program) (t : TypeId) (d : DataW H) : Prop := ∀ n ∈ d.weights P t, n ≤ reachBytes
theorem VN'.len {t e : TypeId} {elems sp : List (DataW H)} (hu : P.underlying t = some (.slice e)) (h : VN' P t (.slice elems sp)) : (elems.length + sp.length) * P.bytesOf e ≤ reachBytes :=
 h _ (by simp only [DataW.weights, hu, List.mem_cons, true_or])
theorem VN'.field {t : TypeId} {fs : Array Field} {parts : List (DataW H)} (hu : P.underlying t = some (.struct fs)) (h : VN' P t (.agg parts)) {i : Nat} {f : Field} {d : DataW H} (hf : fs[i]? = some f) (hp : parts[i]? = some d) : VN' P f.type d := fun n hn => by
 refine h n ?_
 simp only [DataW.weights, hu]
 exact DataW.weights_mem_each (j := i) (by simp [hf]) hp n hn
end
end Go.Proofs.YtdphpillcaajpaaGreatDoor
namespace Go.Proofs.YtdphpillcaajpaaGreatDoor.Upto
open Go.ChangeShapes Go.WideShapes Go.RowKit Go.Deep
theorem one_le {H : Type} (d : DataW H) : 1 ≤ Rows.uptoBulk d := by
 cases d with
 | lit l => cases l <;> simp [Rows.uptoBulk]
 | nil => simp [Rows.uptoBulk]
 | ptr d => simp [Rows.uptoBulk]
 | slice elems spare => simp [Rows.uptoBulk]
 | agg parts => simp [Rows.uptoBulk]
 | iface t d => simp [Rows.uptoBulk]
 | map entries => simp [Rows.uptoBulk]
 | held h => simp [Rows.uptoBulk]
theorem part_le {H : Type} {d : DataW H} {l : List (DataW H)} (h : d ∈ l) : Rows.uptoBulk d ≤ Rows.uptoBulkAll l := by
 induction l with
 | nil => cases h
 | cons x r ih =>
  simp only [Rows.uptoBulkAll]
  cases List.mem_cons.1 h with
  | inl e => subst e; omega
  | inr e => have := ih e; omega
theorem length_le {H : Type} (l : List (DataW H)) : l.length ≤ Rows.uptoBulkAll l := by
 induction l with
 | nil => simp [Rows.uptoBulkAll]
 | cons x r ih => have := one_le x; simp only [Rows.uptoBulkAll, List.length_cons]; omega
theorem slice_elems {H : Type} (elems spare : List (DataW H)) : Rows.uptoBulkAll elems + 1 ≤ Rows.uptoBulk (.slice elems spare) := by
 simp only [Rows.uptoBulk]
 omega
theorem string_eq {H : Type} (bytes : List UInt8) : Rows.uptoBulk (DataW.lit (H := H) (.string bytes)) = bytes.length + 1 := by
 simp [Rows.uptoBulk]
theorem agg_part {H : Type} {parts : List (DataW H)} {d : DataW H} (h : d ∈ parts) : Rows.uptoBulk d + 1 ≤ Rows.uptoBulk (.agg parts) := by
 have := part_le h
 simp only [Rows.uptoBulk]
 omega
theorem bound {H : Type} {l : List (DataW H)} (hk : Rows.uptoSmall H l = true) : Rows.uptoBulkAll l ≤ 1048576 := of_decide_eq_true hk
theorem slice_len {H : Type} {enc : TypeId × Value → H} {P : Program} {w : World} {base : Nat} {spare : Nat → Bool} {held : Bool} {t e : TypeId} (ht : P.underlying t = some (.slice e)) {fuel : Nat} {A : Option Addr} {len cap : Nat} {x : DataW H × List MemPlace} (h : DataW.trod enc P w base spare held fuel t [.slice A len cap] = some x) : len + 1 ≤ Rows.uptoBulk x.1 := by
 rcases open_slice ht h with ⟨hcs, _⟩ | ⟨a, len', cap', m, n, D, Pl, hcs, hb, hl, hm, hmm, hx, hi⟩
 ·simp only [List.cons.injEq, Value.slice.injEq, and_true] at hcs
  obtain ⟨rfl, rfl, rfl⟩ := hcs
  exact one_le x.1
 ·simp only [List.cons.injEq, Value.slice.injEq, and_true] at hcs
  obtain ⟨rfl, rfl, rfl⟩ := hcs
  rw [hx]
  refine Nat.le_trans ?_ (slice_elems _ _)
  refine Nat.succ_le_succ (Nat.le_trans ?_ (length_le _))
  simp
theorem sum_bulk {H α : Type} (wt : α → Nat) : ∀ (l : List α) (ds : List (DataW H)), l.length = ds.length → (∀ (i : Nat) (p : α) (d : DataW H), l[i]? = some p → ds[i]? = some d → wt p ≤ Rows.uptoBulk d) → (l.map wt).sum ≤ Rows.uptoBulkAll ds
 | [], [], _, _ => Nat.zero_le _
 | [], _ :: _, h, _ => by cases h
 | _ :: _, [], h, _ => by cases h
 | p :: l, d :: ds, h, hw => by
  have h1 := hw 0 p d rfl rfl
  have h2 := sum_bulk wt l ds (by simpa using h) fun i q e hq he => hw (i + 1) q e hq he
  simp only [List.map_cons, List.sum_cons, Rows.uptoBulkAll]
  omega
end Go.Proofs.YtdphpillcaajpaaGreatDoor.Upto
namespace Go.Proofs.YtdphpillcaajpaaGreatDoor.Js
open Go.ChangeShapes Go.WideShapes Go.RowKit Go.Deep Go Eng Kit
section
variable {H : Type} {encD : TypeId × Value → H} {w : World} {base : Nat} {spare : Nat → Bool} {held : Bool}
theorem JK' {P : Program} {t e : TypeId} {size : Nat} (hC : P.cellsOf e = size) (ht : P.underlying t = some (.slice e)) {fuel : Nat} {cs : List Value} {x : DataW H × List MemPlace} (h : DataW.trod encD P w base spare held fuel t cs = some x) :
  ∃ oa len c, cs = [.slice oa len c] ∧ len + 1 ≤ Rows.uptoBulk x.1 ∧ ∃ D : Nat → DataW H, (∀ i, i < len → Rows.uptoBulk (D i) + 1 ≤ Rows.uptoBulk x.1) ∧ Rows.uptoBulkAll ((List.range len).map D) + 1 ≤ Rows.uptoBulk x.1 ∧
   ∀ i, i < len → ∃ a cs' n Pl, oa = some a ∧ cs'.length = size ∧ Js.Cells w.cell? (a.add (i * size)) cs' ∧ DataW.trod encD P w base spare held n e cs' = some (D i, Pl) := by
 rcases open_slice ht h with ⟨rfl, rfl⟩ | ⟨a, len, cap, m, n, D, Pl, rfl, hb, hl, hm, hmm, rfl, hi⟩
 ·exact ⟨none, 0, 0, rfl, Upto.one_le _, fun _ => .nil, (fun i h => by omega), Upto.one_le _, fun i h => by omega⟩
 ·have hlm : len ≤ m := by rw [hmm]; split <;> omega
  refine ⟨some a, len, cap, rfl, Upto.slice_len ht h, D, fun i hil => ?_, Upto.slice_elems _ _, fun i hil => ?_⟩
  ·have hmem : D i ∈ (List.range len).map D := List.mem_map.2 ⟨i, List.mem_range.2 hil, rfl⟩
   exact Nat.le_trans (Nat.succ_le_succ (Upto.part_le hmem)) (Upto.slice_elems _ _)
  ·obtain ⟨cs', hc, ht'⟩ := hi i (by omega)
   obtain ⟨_, hcl, hat⟩ := World.cells?_some hc
   rw [hC] at hcl hat
   refine ⟨a, cs', n, Pl i, rfl, hcl, fun j u hu => ?_, ht'⟩
   have hj : j < size := by rw [← hcl]; exact (List.getElem?_eq_some_iff.1 hu).1
   rw [← hu, ← hat j hj]
theorem JW' {α : Type} {n : Nat} {P : Nat → α → Prop} (h : ∀ i, i < n → ∃ x, P i x) : ∃ l : List α, l.length = n ∧ ∀ i x, l[i]? = some x → P i x := by
 have h' : ∀ i : Fin n, ∃ x, P i.1 x := fun i => h i.1 i.2
 obtain ⟨g, hg⟩ := Classical.axiomOfChoice h'
 refine ⟨List.ofFn g, by simp, fun i x hx => ?_⟩
 rw [List.getElem?_ofFn] at hx
 split at hx
 ·rename_i hlt; cases hx; exact hg ⟨i, hlt⟩
 ·cases hx
theorem NF' : ∀ (k : Nat) {fuel : Nat} {cs : List Value} {x : DataW H × List MemPlace}, Rows.uptoBulk x.1 ≤ k → Rows.uptoBulk x.1 ≤ 1048576 → DataW.trod encD Tryz.prog w base spare held fuel 25 cs = some x → ∃ v r, cs = r.cells ∧ JAt w.cell? k v r ∧ wJ k v ≤ Rows.uptoBulk x.1
 | 0, fuel, cs, x, hk, hb, h => by
  have := Upto.one_le x.1
  omega
 | k + 1, fuel, cs, x, hk, hb, h => by
  obtain ⟨ys, n, _, rfl, hlen, hyl, hf⟩ := DataW.trod_struct Tryz.underlying25 h
  have zI : Tryz.prog.cellsOf 3 = 1 := by kernel_rfl
  have zS : Tryz.prog.cellsOf 9 = 1 := by kernel_rfl
  have zL : Tryz.prog.cellsOf 22 = 1 := by kernel_rfl
  have zT : Tryz.prog.cellsOf 23 = 1 := by kernel_rfl
  match cs, hlen.trans (by kernel_rfl : Tryz.prog.cellsOf 25 = 5) with
  | [c0, c1, c2, c3, c4], _ =>
   match ys, hyl with
   | [y0, y1, y2, y3, y4], _ =>
    have b2 : Rows.uptoBulk y2.1 + 1 ≤ Rows.uptoBulk (DataW.agg [y0.1, y1.1, y2.1, y3.1, y4.1]) := Upto.agg_part (by simp)
    have b3 : Rows.uptoBulk y3.1 + 1 ≤ Rows.uptoBulk (DataW.agg [y0.1, y1.1, y2.1, y3.1, y4.1]) := Upto.agg_part (by simp)
    have b4 : Rows.uptoBulk y4.1 + 1 ≤ Rows.uptoBulk (DataW.agg [y0.1, y1.1, y2.1, y3.1, y4.1]) := Upto.agg_part (by simp)
    have hk : Rows.uptoBulk (DataW.agg [y0.1, y1.1, y2.1, y3.1, y4.1]) ≤ k + 1 := hk
    have hb : Rows.uptoBulk (DataW.agg [y0.1, y1.1, y2.1, y3.1, y4.1]) ≤ 1048576 := hb
    obtain ⟨a0, e0, x0, q0⟩ := DataW.trod_int Tryz.underlying3 (by simpa [zI, zS, zL, zT] using hf 0 _ rfl : DataW.trod encD Tryz.prog w base spare held n 3 [c0] = some y0)
    obtain rfl := (List.cons.inj e0).1
    obtain ⟨a1, e1, x1, q1⟩ := DataW.trod_int Tryz.underlying3 (by simpa [zI, zS, zL, zT] using hf 1 _ rfl : DataW.trod encD Tryz.prog w base spare held n 3 [c1] = some y1)
    obtain rfl := (List.cons.inj e1).1
    obtain ⟨a2, e2, x2, q2⟩ := DataW.trod_string Tryz.underlying9 (by simpa [zI, zS, zL, zT] using hf 2 _ rfl : DataW.trod encD Tryz.prog w base spare held n 9 [c2] = some y2)
    obtain rfl := (List.cons.inj e2).1
    obtain ⟨la, ll, lc, e3, lb, DL, hd1, hdw, hd2⟩ := JK' (size := 5) (by kernel_rfl) Tryz.underlying22 (by simpa [zI, zS, zL, zT] using hf 3 _ rfl : DataW.trod encD Tryz.prog w base spare held n 22 [c3] = some y3)
    obtain rfl := (List.cons.inj e3).1
    obtain ⟨ta, tl, tc, e4, tb, DT, ht1, htw, ht2⟩ := JK' (size := 1) (by kernel_rfl) Tryz.underlying23 (by simpa [zI, zS, zL, zT] using hf 4 _ rfl : DataW.trod encD Tryz.prog w base spare held n 23 [c4] = some y4)
    obtain rfl := (List.cons.inj e4).1
    obtain ⟨l, hl1, hl2⟩ := JW' (n := ll) (P := fun i x => (∃ a r, la = some a ∧ Js.Cells w.cell? (a.add (i * 5)) r.cells ∧ JAt w.cell? k x r) ∧ wJ k x ≤ Rows.uptoBulk (DL i)) fun i hi => by
     obtain ⟨a, cs', n', Pl, q1, q2, q3, q4⟩ := hd2 i hi
     have hdi := hd1 i hi
     obtain ⟨v, r, rfl, q5, q6⟩ := NF' k (show Rows.uptoBulk (DL i) ≤ k by omega) (show Rows.uptoBulk (DL i) ≤ 1048576 by omega) q4
     exact ⟨v, ⟨a, r, q1, q3, q5⟩, q6⟩
    obtain ⟨f, hf1, hf2⟩ := JW' (n := tl) (P := fun i (nm : ByteArray) => (∃ a, ta = some a ∧ w.cell? (a.add i) = some (.string nm)) ∧ nm.size + 1 ≤ Rows.uptoBulk (DT i)) fun i hi => by
     obtain ⟨a, cs', n', Pl, q1, q2, q3, q4⟩ := ht2 i hi
     match cs', q2 with
     | [c], _ =>
      obtain ⟨nm, e, x9, _⟩ := DataW.trod_string Tryz.underlying9 q4
      obtain rfl := (List.cons.inj e).1
      have x9 : DT i = .lit (.string nm.data.toList) := congrArg Prod.fst x9
      exact ⟨nm, ⟨a, q1, by
       have := q3 0 _ rfl
       rw [Nat.mul_one] at this
       exact this⟩, by rw [x9, Upto.string_eq]; exact Yd⟩
    have hsz : Rows.uptoBulk y2.1 = a2.size + 1 := by rw [x2]; exact Upto.string_eq _
    have hL := Upto.sum_bulk (wJ k) l ((List.range ll).map DL) (by simp [hl1]) fun i p d hp hd => by
     have := (hl2 i p hp).2
     rw [List.getElem?_map, List.getElem?_range (by have := (List.getElem?_eq_some_iff.1 hp).1; omega)] at hd
     cases hd
     exact this
    have hN := Upto.sum_bulk (fun n : ByteArray => n.size + 1) f ((List.range tl).map DT) (by simp [hf1]) fun i p d hp hd => by
     have := (hf2 i p hp).2
     rw [List.getElem?_map, List.getElem?_range (by have := (List.getElem?_eq_some_iff.1 hp).1; omega)] at hd
     cases hd
     exact this
    have hw : 1 + a2.size + (f.map fun n => n.size + 1).sum + (l.map (wJ k)).sum ≤ Rows.uptoBulk (DataW.agg [y0.1, y1.1, y2.1, y3.1, y4.1]) := by
     have h0 : Rows.uptoBulk (DataW.agg [y0.1, y1.1, y2.1, y3.1, y4.1]) = Rows.uptoBulk y0.1 + (Rows.uptoBulk y1.1 + (Rows.uptoBulk y2.1 + (Rows.uptoBulk y3.1 + (Rows.uptoBulk y4.1 + 0)))) + 1 := by simp only [Rows.uptoBulk, Rows.uptoBulkAll]
     rw [h0]
     omega
    subst hl1 hf1
    have hbig : big = 140737488351232 := rfl
    exact ⟨.mk a0 a1 a2 l f, ⟨a0, a1, a2, la, l.length, lc, ta, f.length, tc⟩, rfl, ⟨⟨rfl, rfl, rfl, rfl, rfl⟩, ⟨by rw [hbig]; show l.length * 80 ≤ _; omega, fun i x hx => (hl2 i x hx).1⟩, ⟨by rw [hbig]; show f.length * 16 ≤ _; omega, fun i x hx => (hf2 i x hx).1⟩⟩, hw⟩
theorem open_argW {r0 : Reach} {b0 : Nat} {v : Value} {d : DataW H} {p : List MemPlace} (hb : Rows.uptoBulk d ≤ 1048576) (hv : Value.okWide Tryz.prog w r0 b0 25 v) (h : DataW.Trod encD Tryz.prog w base spare held 25 v d p) :
  ∃ (u : Jv) (r : Rj) (k : Nat), v = .agg r.cells.toArray ∧ JAt w.cell? (k + 1) u r ∧ wJ (k + 1) u ≤ Rows.uptoBulk d := by
 obtain ⟨cs, rfl, hsz⟩ := okWide_struct Tryz.underlying25 hv
 obtain ⟨fuel, hf⟩ := h
 obtain ⟨u, r, hc, hj, ht⟩ := NF' (Rows.uptoBulk d) (Yd) hb hf
 have h1 := Upto.one_le d
 refine ⟨u, r, Rows.uptoBulk d - 1, ?_, ?_, ?_⟩
 ·rw [← hc]; rfl
 ·rw [Nat.sub_add_cancel h1]; exact hj
 ·rw [Nat.sub_add_cancel h1]; exact ht
end
end Go.Proofs.YtdphpillcaajpaaGreatDoor.Js
namespace Go.Proofs.YtdphpillcaajpaaGreatDoor.Wit
open Go
theorem row_zip {H : Type} {enc : TypeId × Value → H} {C : Checked} {os : Os} {f : FuncId} {fn : Func} {s : OpenSpec} {conds : List PathCond} {apart : Bool} {laid : List (String × DataW Unit)} (w0 : World) (args : Array Value) (hos : w0.os = os)
  (hv : (w0.forCall (fun _ _ => 0) ⟨#[], args, []⟩).variablesZipB C.prog = true)
  (hr : ((w0.forCall (fun _ _ => 0) ⟨#[], args, []⟩).heap.toList.drop C.prog.globals.size).take ((begin C.prog (fun _ _ => 0) default).world.heap.size - C.prog.globals.size) =
   (begin C.prog (fun _ _ => 0) default).world.heap.toList.drop C.prog.globals.size)
  (hok : Input.okWideB C.prog (w0.forCall (fun _ _ => 0) ⟨#[], args, []⟩) f ⟨#[], args, []⟩ = true)
  (hrow : s.preRow enc C.prog fn conds apart laid (w0.forCall (fun _ _ => 0) ⟨#[], args, []⟩).memory args) :
  ∃ (w : World) (tape : Tape) (i : Input), w.os = os ∧ (w.forCall tape i).Shaped C.prog ∧ i.vars = [] ∧ Input.okWide C.prog (w.forCall tape i) .any w.heap.size f i ∧
   s.preRow enc C.prog fn conds apart laid (w.forCall tape i).memory i.args ∧ ({} : Assume).holds C.prog (lone (Frame.enter C.prog f i.args .normal) [] (w.forCall tape i)) :=
 ⟨w0, fun _ _ => 0, ⟨#[], args, []⟩, hos, World.shaped_of_ZipB hv hr, (Input.okWide_of_okWideB (base := 0) hok).1, (Input.okWide_of_okWideB hok).2, hrow, by
  simp [Assume.holds]⟩
end Go.Proofs.YtdphpillcaajpaaGreatDoor.Wit
