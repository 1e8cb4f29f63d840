/- Parts of the proof, merged. -/
import Derived.Test.YtcpijmlaglcblaaPlk1
import Derived.Test.YtcpijmlaglcblaaEngClosed
import Derived.Handy
import Derived.Laws.StructEq
import Derived.Test.YtcpijmlaglcblaaRows
import Derived.Test.YtcpijmlaglcblaaOpenSl
import Derived.ProofKit
import Derived.OpenShut
import Derived.Deep.Fields
import Derived.Test.YtcpijmlaglcblaaEngCon
/- RanksDrains: runs. -/
set_option linter.unusedVariables false
set_option linter.unusedSimpArgs false
set_option maxRecDepth 100000
namespace Go.Proofs.Ytcpijmlaglcblaa.Rk
open Go Go.RowKit Go.Proofs.Ytcpijmlaglcblaa.Eng
noncomputable section
abbrev fBefore : Nat := 10
abbrev fSpeaks : Nat := 6
abbrev fDrains : Nat := 3
theorem oBefore_eq (x y : It) (F : HP) : oRun [] noHints [] fBefore [itA x, itA y] [] [] F = VT.ite (x.a != y.a) (VT.leaf (AV.v (Value.bool (decide (x.a > y.a)))) [] 1102 (((Cnd.p (true = true)).a ((Cnd.p (AV.v (Value.int IntKind.i64 x.a) = AV.v (Value.int IntKind.i64 x.a))).a Cnd.t)).a (((Cnd.p (true = true)).a ((Cnd.p (AV.v (Value.int IntKind.i64 y.a) = AV.v (Value.int IntKind.i64 y.a))).a Cnd.t)).a (((Cnd.p (true = true)).a ((Cnd.p (AV.v (Value.int IntKind.i64 x.a) = AV.v (Value.int IntKind.i64 x.a))).a Cnd.t)).a (((Cnd.p (true = true)).a ((Cnd.p (AV.v (Value.int IntKind.i64 y.a) = AV.v (Value.int IntKind.i64 y.a))).a Cnd.t)).a Cnd.t))))) (VT.leaf (AV.v (Value.bool (decide (x.b < y.b)))) [] 1102 (((Cnd.p (true = true)).a ((Cnd.p (AV.v (Value.int IntKind.i64 x.a) = AV.v (Value.int IntKind.i64 x.a))).a Cnd.t)).a (((Cnd.p (true = true)).a ((Cnd.p (AV.v (Value.int IntKind.i64 y.a) = AV.v (Value.int IntKind.i64 y.a))).a Cnd.t)).a (((Cnd.p (true = true)).a ((Cnd.p (AV.v (Value.int IntKind.i64 x.b) = AV.v (Value.int IntKind.i64 x.b))).a Cnd.t)).a (((Cnd.p (true = true)).a ((Cnd.p (AV.v (Value.int IntKind.i64 y.b) = AV.v (Value.int IntKind.i64 y.b))).a Cnd.t)).a Cnd.t))))) := by kernel_rfl
def lineC (i : Nat) (A args : List AV) (L : List It) (v : AV) (L' : List It) : AP AV := useC (fun _ => i) A args [(0, lO L)] (.leaf .ret [v] [(0, lO L')])
def cNew : List AV → Option (AP AV) := fun args => match args with
  | [] => some (useC (fun i => i) [] [] [] (.leaf .ret [.ptr 1000 0] [(1000, lO [])]))
  | _ => none
def cLPut : List AV → Option (AP AV) := fun args => match args with
  | [.ptr i 0, .agg [.v (.int .i64 a), .v (.int .i64 b), .v (.int .i64 c)]] => some (ownC i fun m => match m with
    | .line L => .need (RoomL L) (lineC i [.ptr 0 0, itA ⟨a, b, c⟩] args L (.v (.bool (!hasSeq b L))) (putL L ⟨a, b, c⟩))
    | _ => .fail "line")
  | _ => none
def cLPop : List AV → Option (AP AV) := fun args => match args with
  | [.ptr i 0] => some (ownC i fun m => match m with
    | .line L => lineC i [.ptr 0 0] args L (.tuple [itA (L.headD It.zero), .v (.bool (!L.isEmpty))]) L.tail
    | _ => .fail "line")
  | _ => none
def cLLen : List AV → Option (AP AV) := fun args => match args with
  | [.ptr i 0] => some (ownC i fun m => match m with
    | .line L => lineC i [.ptr 0 0] args L (iv (Int.ofNat L.length)) L
    | _ => .fail "line")
  | _ => none
def cBefore : List AV → Option (AP AV) := fun args => match args with
  | [.agg [.v (.int .i64 a), .v (.int .i64 b), .v (.int .i64 c)], .agg [.v (.int .i64 a'), .v (.int .i64 b'), .v (.int .i64 c')]] => some (useC (fun i => i) [itA ⟨a, b, c⟩, itA ⟨a', b', c'⟩] args [] (.leaf .ret [.v (.bool (ahead ⟨a, b, c⟩ ⟨a', b', c'⟩))] []))
  | _ => none
def cSpeaks : List AV → Option (AP AV) := fun args => match args with
  | [] => some (useC (fun i => i) [] [] [] (.leaf .ret [.v (.bool true)] []))
  | _ => none
def conR : List (FuncId × (List AV → Option (AP AV))) := [(fNew, cNew), (fLPut, cLPut), (fLPop, cLPop), (fLLen, cLLen), (fBefore, cBefore), (fSpeaks, cSpeaks)]
/-- Runs over the world that was there. -/
def envW (con : List (FuncId × (List AV → Option (AP AV)))) (hints : ClaimT) (lc : List (FuncId × Nat × Code × (List AV → AP (AX × List AV)))) (W : World) (F : HP) : Env := envO Try.prog F (conL con) hints (lconL lc) W
def wRun (con : List (FuncId × (List AV → Option (AP AV)))) (hints : ClaimT) (lc : List (FuncId × Nat × Code × (List AV → AP (AX × List AV)))) (W : World) (f : FuncId) (A : List AV) (H : LH) (ks : List Nat) (F : HP) : VT AV := ((runCall Try.prog (envW con hints lc W F) 1000 f A).run2 (heapOf H) 1100 []).view ks
def wLoop (con : List (FuncId × (List AV → Option (AP AV)))) (hints : ClaimT) (lc : List (FuncId × Nat × Code × (List AV → AP (AX × List AV)))) (W : World) (g : FuncId) (b : Code) (A : List AV) (H : LH) (ks idx : List Nat) (F : HP) : VT (AX × List AV × Nat) := (((runCode Try.prog (envW con hints lc W F) 1000 g b A).run2 (heapOf H) 1100 []).view ks).map (seenT idx)
/-- The loop that begins with a region. -/
def loopAt (r : Nat) : Code → Option Code
  | .loop b => match firstReg b with
    | some i => match Nat.beq i r with
      | true => some b
      | false => loopAt r b
    | none => loopAt r b
  | .seq a b => match loopAt r a with | some c => some c | none => loopAt r b
  | .cond _ a b => match loopAt r a with | some c => some c | none => loopAt r b
  | .block _ b | .scope b => loopAt r b
  | _ => none
def loopN (f : FuncId) (r : Nat) : Code := ((Try.prog.funcs[f]?).bind fun fn => fn.body.bind (loopAt r)).getD .skip
/-- The slice that comes in. -/
def slV (oa : Option Addr) (n c : Nat) : AV := .v (.slice oa n c)
def aPut (V : AV) (n k p : Nat) : List (Nat × AV) := [(0, V), (3, .ptr 0 0), (4, iv (Int.ofNat p)), (21, V), (22, iv (Int.ofNat n)), (23, iv (Int.ofNat k))]
def zPut (V : AV) (p : Nat) : List (Nat × AV) := [(0, V), (3, .ptr 0 0), (4, iv (Int.ofNat p))]
def hPutL (k p : Nat) (x : It) : ClaimT := hintL [(fDrains, 9, 1, hv (itA x)), (fDrains, 11, 1, hv (iv (Int.ofNat (p + 1)))), (fDrains, 12, 0, hv (iv (Int.ofNat (k + 1))))]
theorem oLoopPut_eq (W : World) (a : Addr) (n c k : Nat) (x : It) (L : List It) (F : HP) : wLoop conR (hPutL k L.length x) [] W fDrains (loopN fDrains 8) (tms 0 84 (aPut (slV (some a) n c) n k L.length)) [(0, lO L)] [0] [0, 3, 4, 21, 22, 23] F = VT.ite (decide (Int.ofNat k < Int.ofNat n)) (VT.ite (!hasSeq x.b L) (VT.leaf (AX.normal, [AV.v (Value.slice (some a) n c), AV.ptr 0 0, AV.v (Value.int IntKind.i64 (Int.ofNat (L.length + 1))), AV.v (Value.slice (some a) n c), AV.v (Value.int IntKind.i64 (Int.ofNat n)), AV.v (Value.int IntKind.i64 (Int.ofNat (k + 1)))], 84) [some (AO.own (Md.line (putL L (It.mk x.a x.b x.c))) (lH (putL L (It.mk x.a x.b x.c))))] 1101 (((Cnd.p (k.blt n = true)).a Cnd.t).a (((Cnd.p (([0, 1, 2].all fun j => (W.cell? ((a.add (k * 3)).add j)).isSome) = true)).a ((Cnd.p ([AV.v ((W.cell? ((a.add (k * 3)).add 0)).getD (Value.tuple (Array.mk []))), AV.v ((W.cell? (Addr.mk (a.add (k * 3)).block ((a.add (k * 3)).off + 1) none)).getD (Value.tuple (Array.mk []))), AV.v ((W.cell? (Addr.mk (a.add (k * 3)).block ((a.add (k * 3)).off + 2) none)).getD (Value.tuple (Array.mk [])))] = [AV.v (Value.int IntKind.i64 (AV.v ((W.cell? ((a.add (k * 3)).add 0)).getD (Value.tuple (Array.mk [])))).intOf), AV.v (Value.int IntKind.i64 (AV.v ((W.cell? (Addr.mk (a.add (k * 3)).block ((a.add (k * 3)).off + 1) none)).getD (Value.tuple (Array.mk [])))).intOf), AV.v (Value.int IntKind.i64 (AV.v ((W.cell? (Addr.mk (a.add (k * 3)).block ((a.add (k * 3)).off + 2) none)).getD (Value.tuple (Array.mk [])))).intOf)])).a ((Cnd.p (Wk (AV.agg [AV.v (Value.int IntKind.i64 (AV.v ((W.cell? ((a.add (k * 3)).add 0)).getD (Value.tuple (Array.mk [])))).intOf), AV.v (Value.int IntKind.i64 (AV.v ((W.cell? (Addr.mk (a.add (k * 3)).block ((a.add (k * 3)).off + 1) none)).getD (Value.tuple (Array.mk [])))).intOf), AV.v (Value.int IntKind.i64 (AV.v ((W.cell? (Addr.mk (a.add (k * 3)).block ((a.add (k * 3)).off + 2) none)).getD (Value.tuple (Array.mk [])))).intOf)]) (AV.agg [AV.v (Value.int IntKind.i64 x.a), AV.v (Value.int IntKind.i64 x.b), AV.v (Value.int IntKind.i64 x.c)]))).a Cnd.t))).a (((Cnd.p (true = true)).a Cnd.t).a (((Cnd.p (true = true)).a ((Cnd.p ([AV.v (Value.int IntKind.i64 x.a), AV.v (Value.int IntKind.i64 x.b), AV.v (Value.int IntKind.i64 x.c)] = [AV.v (Value.int IntKind.i64 x.a), AV.v (Value.int IntKind.i64 x.b), AV.v (Value.int IntKind.i64 x.c)])).a Cnd.t)).a (((Cnd.p (RoomL L)).a ((Cnd.p (VW [AV.ptr 0 0, AV.agg [AV.v (Value.int IntKind.i64 x.a), AV.v (Value.int IntKind.i64 x.b), AV.v (Value.int IntKind.i64 x.c)]] [AV.ptr 0 0, AV.agg [AV.v (Value.int IntKind.i64 x.a), AV.v (Value.int IntKind.i64 x.b), AV.v (Value.int IntKind.i64 x.c)]])).a ((Cnd.p (OW (AO.own (Md.line L) (lH L)) (AO.own (Md.line L) (lH L)))).a Cnd.t))).a (((Cnd.p (Wk (AV.v (Value.int IntKind.i64 (IntKind.i64.wrap (Int.ofNat L.length + Int.ofNat 1)))) (AV.v (Value.int IntKind.i64 (Int.ofNat (L.length + 1)))))).a Cnd.t).a (((Cnd.p (Wk (AV.v (Value.int IntKind.i64 (IntKind.i64.wrap (Int.ofNat k + Int.ofNat 1)))) (AV.v (Value.int IntKind.i64 (Int.ofNat (k + 1)))))).a Cnd.t).a Cnd.t)))))))) (VT.leaf (AX.normal, [AV.v (Value.slice (some a) n c), AV.ptr 0 0, AV.v (Value.int IntKind.i64 (Int.ofNat L.length)), AV.v (Value.slice (some a) n c), AV.v (Value.int IntKind.i64 (Int.ofNat n)), AV.v (Value.int IntKind.i64 (Int.ofNat (k + 1)))], 84) [some (AO.own (Md.line (putL L (It.mk x.a x.b x.c))) (lH (putL L (It.mk x.a x.b x.c))))] 1101 (((Cnd.p (k.blt n = true)).a Cnd.t).a (((Cnd.p (([0, 1, 2].all fun j => (W.cell? ((a.add (k * 3)).add j)).isSome) = true)).a ((Cnd.p ([AV.v ((W.cell? ((a.add (k * 3)).add 0)).getD (Value.tuple (Array.mk []))), AV.v ((W.cell? (Addr.mk (a.add (k * 3)).block ((a.add (k * 3)).off + 1) none)).getD (Value.tuple (Array.mk []))), AV.v ((W.cell? (Addr.mk (a.add (k * 3)).block ((a.add (k * 3)).off + 2) none)).getD (Value.tuple (Array.mk [])))] = [AV.v (Value.int IntKind.i64 (AV.v ((W.cell? ((a.add (k * 3)).add 0)).getD (Value.tuple (Array.mk [])))).intOf), AV.v (Value.int IntKind.i64 (AV.v ((W.cell? (Addr.mk (a.add (k * 3)).block ((a.add (k * 3)).off + 1) none)).getD (Value.tuple (Array.mk [])))).intOf), AV.v (Value.int IntKind.i64 (AV.v ((W.cell? (Addr.mk (a.add (k * 3)).block ((a.add (k * 3)).off + 2) none)).getD (Value.tuple (Array.mk [])))).intOf)])).a ((Cnd.p (Wk (AV.agg [AV.v (Value.int IntKind.i64 (AV.v ((W.cell? ((a.add (k * 3)).add 0)).getD (Value.tuple (Array.mk [])))).intOf), AV.v (Value.int IntKind.i64 (AV.v ((W.cell? (Addr.mk (a.add (k * 3)).block ((a.add (k * 3)).off + 1) none)).getD (Value.tuple (Array.mk [])))).intOf), AV.v (Value.int IntKind.i64 (AV.v ((W.cell? (Addr.mk (a.add (k * 3)).block ((a.add (k * 3)).off + 2) none)).getD (Value.tuple (Array.mk [])))).intOf)]) (AV.agg [AV.v (Value.int IntKind.i64 x.a), AV.v (Value.int IntKind.i64 x.b), AV.v (Value.int IntKind.i64 x.c)]))).a Cnd.t))).a (((Cnd.p (true = true)).a Cnd.t).a (((Cnd.p (true = true)).a ((Cnd.p ([AV.v (Value.int IntKind.i64 x.a), AV.v (Value.int IntKind.i64 x.b), AV.v (Value.int IntKind.i64 x.c)] = [AV.v (Value.int IntKind.i64 x.a), AV.v (Value.int IntKind.i64 x.b), AV.v (Value.int IntKind.i64 x.c)])).a Cnd.t)).a (((Cnd.p (RoomL L)).a ((Cnd.p (VW [AV.ptr 0 0, AV.agg [AV.v (Value.int IntKind.i64 x.a), AV.v (Value.int IntKind.i64 x.b), AV.v (Value.int IntKind.i64 x.c)]] [AV.ptr 0 0, AV.agg [AV.v (Value.int IntKind.i64 x.a), AV.v (Value.int IntKind.i64 x.b), AV.v (Value.int IntKind.i64 x.c)]])).a ((Cnd.p (OW (AO.own (Md.line L) (lH L)) (AO.own (Md.line L) (lH L)))).a Cnd.t))).a (((Cnd.p (Wk (AV.v (Value.int IntKind.i64 (IntKind.i64.wrap (Int.ofNat k + Int.ofNat 1)))) (AV.v (Value.int IntKind.i64 (Int.ofNat (k + 1)))))).a Cnd.t).a Cnd.t)))))))) (VT.leaf (AX.exit 0, [AV.v (Value.slice (some a) n c), AV.ptr 0 0, AV.v (Value.int IntKind.i64 (Int.ofNat L.length)), AV.v (Value.slice (some a) n c), AV.v (Value.int IntKind.i64 (Int.ofNat n)), AV.v (Value.int IntKind.i64 (Int.ofNat k))], 84) [some (AO.own (Md.line L) (lH L))] 1100 Cnd.t) := by kernel_rfl
theorem oLoopPut0_eq (W : World) (c : Nat) (x : It) (F : HP) : wLoop conR (hPutL 0 0 x) [] W fDrains (loopN fDrains 8) (tms 0 84 (aPut (slV none 0 c) 0 0 0)) [(0, lO [])] [0] [0, 3, 4, 21, 22, 23] F = VT.ite false (VT.bad "indexAddr") (VT.leaf (AX.exit 0, [AV.v (Value.slice none 0 c), AV.ptr 0 0, AV.v (Value.int IntKind.i64 (Int.ofNat 0)), AV.v (Value.slice none 0 c), AV.v (Value.int IntKind.i64 (Int.ofNat 0)), AV.v (Value.int IntKind.i64 (Int.ofNat 0))], 84) [some (AO.own (Md.line []) (lH []))] 1100 Cnd.t) := by kernel_rfl
def aFind (V : AV) (n k p i : Nat) (f : Bool) : List (Nat × AV) := [(0, V), (3, .ptr 0 0), (4, iv (Int.ofNat p)), (7, .ptr 1 0), (8, iv (Int.ofNat i)), (9, .ptr 2 0), (11, .v (.bool f)), (56, V), (57, iv (Int.ofNat n)), (58, iv (Int.ofNat k))]
def zFind (V : AV) (p i : Nat) (f : Bool) : List (Nat × AV) := [(0, V), (3, .ptr 0 0), (4, iv (Int.ofNat p)), (7, .ptr 1 0), (8, iv (Int.ofNat i)), (9, .ptr 2 0), (11, .v (.bool f))]
def boxO (x : It) : AO := .cells (vmap (enc x)) tIt
def hFind (k : Nat) (x : It) : ClaimT := hintL [(fDrains, 23, 1, hv (itA x)), (fDrains, 25, 0, hv (iv (Int.ofNat (k + 1))))]
theorem oLoopFind_eq (W : World) (a : Addr) (n c k p i : Nat) (f : Bool) (x it last : It) (L : List It) (F : HP) : wLoop conR (hFind k x) [] W fDrains (loopN fDrains 22) (tms 0 84 (aFind (slV (some a) n c) n k p i f)) [(0, lO L), (1, boxO last), (2, boxO it)] [0, 1, 2] [0, 3, 4, 7, 8, 9, 11, 56, 57, 58] F = VT.ite (decide (Int.ofNat k < Int.ofNat n)) (VT.ite f (VT.leaf (AX.normal, [AV.v (Value.slice (some a) n c), AV.ptr 0 0, AV.v (Value.int IntKind.i64 (Int.ofNat p)), AV.ptr 1 0, AV.v (Value.int IntKind.i64 (Int.ofNat i)), AV.ptr 2 0, AV.lit true, AV.v (Value.slice (some a) n c), AV.v (Value.int IntKind.i64 (Int.ofNat n)), AV.v (Value.int IntKind.i64 (Int.ofNat (k + 1)))], 84) [some (AO.own (Md.line L) (lH L)), some (AO.cells [AV.v (Value.int IntKind.i64 last.a), AV.v (Value.int IntKind.i64 last.b), AV.v (Value.int IntKind.i64 last.c)] 54), some (AO.cells [AV.v (Value.int IntKind.i64 it.a), AV.v (Value.int IntKind.i64 it.b), AV.v (Value.int IntKind.i64 it.c)] 54)] 1101 (((Cnd.p (k.blt n = true)).a Cnd.t).a (((Cnd.p (([0, 1, 2].all fun j => (W.cell? ((a.add (k * 3)).add j)).isSome) = true)).a ((Cnd.p ([AV.v ((W.cell? ((a.add (k * 3)).add 0)).getD (Value.tuple (Array.mk []))), AV.v ((W.cell? (Addr.mk (a.add (k * 3)).block ((a.add (k * 3)).off + 1) none)).getD (Value.tuple (Array.mk []))), AV.v ((W.cell? (Addr.mk (a.add (k * 3)).block ((a.add (k * 3)).off + 2) none)).getD (Value.tuple (Array.mk [])))] = [AV.v (Value.int IntKind.i64 (AV.v ((W.cell? ((a.add (k * 3)).add 0)).getD (Value.tuple (Array.mk [])))).intOf), AV.v (Value.int IntKind.i64 (AV.v ((W.cell? (Addr.mk (a.add (k * 3)).block ((a.add (k * 3)).off + 1) none)).getD (Value.tuple (Array.mk [])))).intOf), AV.v (Value.int IntKind.i64 (AV.v ((W.cell? (Addr.mk (a.add (k * 3)).block ((a.add (k * 3)).off + 2) none)).getD (Value.tuple (Array.mk [])))).intOf)])).a ((Cnd.p (Wk (AV.agg [AV.v (Value.int IntKind.i64 (AV.v ((W.cell? ((a.add (k * 3)).add 0)).getD (Value.tuple (Array.mk [])))).intOf), AV.v (Value.int IntKind.i64 (AV.v ((W.cell? (Addr.mk (a.add (k * 3)).block ((a.add (k * 3)).off + 1) none)).getD (Value.tuple (Array.mk [])))).intOf), AV.v (Value.int IntKind.i64 (AV.v ((W.cell? (Addr.mk (a.add (k * 3)).block ((a.add (k * 3)).off + 2) none)).getD (Value.tuple (Array.mk [])))).intOf)]) (AV.agg [AV.v (Value.int IntKind.i64 x.a), AV.v (Value.int IntKind.i64 x.b), AV.v (Value.int IntKind.i64 x.c)]))).a Cnd.t))).a (((Cnd.p (true = true)).a Cnd.t).a (((Cnd.p (Wk (AV.v (Value.int IntKind.i64 (IntKind.i64.wrap (Int.ofNat k + Int.ofNat 1)))) (AV.v (Value.int IntKind.i64 (Int.ofNat (k + 1)))))).a Cnd.t).a Cnd.t))))) (VT.leaf (AX.normal, [AV.v (Value.slice (some a) n c), AV.ptr 0 0, AV.v (Value.int IntKind.i64 (Int.ofNat p)), AV.ptr 1 0, AV.v (Value.int IntKind.i64 (Int.ofNat i)), AV.ptr 2 0, AV.v (Value.bool (valsQ [Value.int IntKind.i64 x.a, Value.int IntKind.i64 x.b, Value.int IntKind.i64 x.c] [Value.int IntKind.i64 it.a, Value.int IntKind.i64 it.b, Value.int IntKind.i64 it.c])), AV.v (Value.slice (some a) n c), AV.v (Value.int IntKind.i64 (Int.ofNat n)), AV.v (Value.int IntKind.i64 (Int.ofNat (k + 1)))], 84) [some (AO.own (Md.line L) (lH L)), some (AO.cells [AV.v (Value.int IntKind.i64 last.a), AV.v (Value.int IntKind.i64 last.b), AV.v (Value.int IntKind.i64 last.c)] 54), some (AO.cells [AV.v (Value.int IntKind.i64 it.a), AV.v (Value.int IntKind.i64 it.b), AV.v (Value.int IntKind.i64 it.c)] 54)] 1101 (((Cnd.p (k.blt n = true)).a Cnd.t).a (((Cnd.p (([0, 1, 2].all fun j => (W.cell? ((a.add (k * 3)).add j)).isSome) = true)).a ((Cnd.p ([AV.v ((W.cell? ((a.add (k * 3)).add 0)).getD (Value.tuple (Array.mk []))), AV.v ((W.cell? (Addr.mk (a.add (k * 3)).block ((a.add (k * 3)).off + 1) none)).getD (Value.tuple (Array.mk []))), AV.v ((W.cell? (Addr.mk (a.add (k * 3)).block ((a.add (k * 3)).off + 2) none)).getD (Value.tuple (Array.mk [])))] = [AV.v (Value.int IntKind.i64 (AV.v ((W.cell? ((a.add (k * 3)).add 0)).getD (Value.tuple (Array.mk [])))).intOf), AV.v (Value.int IntKind.i64 (AV.v ((W.cell? (Addr.mk (a.add (k * 3)).block ((a.add (k * 3)).off + 1) none)).getD (Value.tuple (Array.mk [])))).intOf), AV.v (Value.int IntKind.i64 (AV.v ((W.cell? (Addr.mk (a.add (k * 3)).block ((a.add (k * 3)).off + 2) none)).getD (Value.tuple (Array.mk [])))).intOf)])).a ((Cnd.p (Wk (AV.agg [AV.v (Value.int IntKind.i64 (AV.v ((W.cell? ((a.add (k * 3)).add 0)).getD (Value.tuple (Array.mk [])))).intOf), AV.v (Value.int IntKind.i64 (AV.v ((W.cell? (Addr.mk (a.add (k * 3)).block ((a.add (k * 3)).off + 1) none)).getD (Value.tuple (Array.mk [])))).intOf), AV.v (Value.int IntKind.i64 (AV.v ((W.cell? (Addr.mk (a.add (k * 3)).block ((a.add (k * 3)).off + 2) none)).getD (Value.tuple (Array.mk [])))).intOf)]) (AV.agg [AV.v (Value.int IntKind.i64 x.a), AV.v (Value.int IntKind.i64 x.b), AV.v (Value.int IntKind.i64 x.c)]))).a Cnd.t))).a (((Cnd.p (true = true)).a Cnd.t).a (((Cnd.p (true = true)).a ((Cnd.p ([AV.v (Value.int IntKind.i64 x.a), AV.v (Value.int IntKind.i64 x.b), AV.v (Value.int IntKind.i64 x.c)] = [AV.v (Value.int IntKind.i64 x.a), AV.v (Value.int IntKind.i64 x.b), AV.v (Value.int IntKind.i64 x.c)])).a Cnd.t)).a (((Cnd.p (true = true)).a ((Cnd.p ([AV.v (Value.int IntKind.i64 it.a), AV.v (Value.int IntKind.i64 it.b), AV.v (Value.int IntKind.i64 it.c)] = [AV.v (Value.int IntKind.i64 it.a), AV.v (Value.int IntKind.i64 it.b), AV.v (Value.int IntKind.i64 it.c)])).a Cnd.t)).a (((Cnd.p (EqSem Try.prog 27 (Array.mk [Value.int IntKind.i64 x.a, Value.int IntKind.i64 x.b, Value.int IntKind.i64 x.c]) (Array.mk [Value.int IntKind.i64 it.a, Value.int IntKind.i64 it.b, Value.int IntKind.i64 it.c]) (valsQ [Value.int IntKind.i64 x.a, Value.int IntKind.i64 x.b, Value.int IntKind.i64 x.c] [Value.int IntKind.i64 it.a, Value.int IntKind.i64 it.b, Value.int IntKind.i64 it.c]))).a Cnd.t).a (((Cnd.p (Wk (AV.v (Value.int IntKind.i64 (IntKind.i64.wrap (Int.ofNat k + Int.ofNat 1)))) (AV.v (Value.int IntKind.i64 (Int.ofNat (k + 1)))))).a Cnd.t).a Cnd.t))))))))) (VT.leaf (AX.exit 4, [AV.v (Value.slice (some a) n c), AV.ptr 0 0, AV.v (Value.int IntKind.i64 (Int.ofNat p)), AV.ptr 1 0, AV.v (Value.int IntKind.i64 (Int.ofNat i)), AV.ptr 2 0, AV.v (Value.bool f), AV.v (Value.slice (some a) n c), AV.v (Value.int IntKind.i64 (Int.ofNat n)), AV.v (Value.int IntKind.i64 (Int.ofNat k))], 84) [some (AO.own (Md.line L) (lH L)), some (AO.cells [AV.v (Value.int IntKind.i64 last.a), AV.v (Value.int IntKind.i64 last.b), AV.v (Value.int IntKind.i64 last.c)] 54), some (AO.cells [AV.v (Value.int IntKind.i64 it.a), AV.v (Value.int IntKind.i64 it.b), AV.v (Value.int IntKind.i64 it.c)] 54)] 1100 Cnd.t) := by kernel_rfl
theorem oLoopFind0_eq (W : World) (c p i : Nat) (f : Bool) (x it last : It) (L : List It) (F : HP) : wLoop conR (hFind 0 x) [] W fDrains (loopN fDrains 22) (tms 0 84 (aFind (slV none 0 c) 0 0 p i f)) [(0, lO L), (1, boxO last), (2, boxO it)] [0, 1, 2] [0, 3, 4, 7, 8, 9, 11, 56, 57, 58] F = VT.ite false (VT.bad "indexAddr") (VT.leaf (AX.exit 4, [AV.v (Value.slice none 0 c), AV.ptr 0 0, AV.v (Value.int IntKind.i64 (Int.ofNat p)), AV.ptr 1 0, AV.v (Value.int IntKind.i64 (Int.ofNat i)), AV.ptr 2 0, AV.v (Value.bool f), AV.v (Value.slice none 0 c), AV.v (Value.int IntKind.i64 (Int.ofNat 0)), AV.v (Value.int IntKind.i64 (Int.ofNat 0))], 84) [some (AO.own (Md.line L) (lH L)), some (AO.cells [AV.v (Value.int IntKind.i64 last.a), AV.v (Value.int IntKind.i64 last.b), AV.v (Value.int IntKind.i64 last.c)] 54), some (AO.cells [AV.v (Value.int IntKind.i64 it.a), AV.v (Value.int IntKind.i64 it.b), AV.v (Value.int IntKind.i64 it.c)] 54)] 1100 Cnd.t) := by kernel_rfl
def sameIt (x y : It) : Bool := valsQ (enc x) (enc y)
def fnd (items : List It) (it : It) : Bool := items.any fun x => sameIt x it
def nm3 (r0 r1 r2 : Nat) : Nat → Nat := fun k => match Nat.beq k 0 with
  | true => r0
  | false => match Nat.beq k 1 with
    | true => r1
    | false => r2
def findLc (V : AV) (items : List It) (n p i : Nat) (L : List It) (last it : It) : List AV → AP (AX × List AV) := fun tmps => match getL tmps 3 with
  | .ptr r0 0 => match getL tmps 7 with
    | .ptr r1 0 => match getL tmps 9 with
      | .ptr r2 0 => useG (nm3 r0 r1 r2) (tms 0 84 (aFind V n 0 p i false)) tmps [(0, lO L), (1, boxO last), (2, boxO it)] (.leaf (.exit 4) (tms 0 84 (zFind V p i (fnd items it))) [(0, lO L), (1, boxO last), (2, boxO it)])
      | _ => .fail "find"
    | _ => .fail "find"
  | _ => .fail "find"
def aOut (V : AV) (p i : Nat) : List (Nat × AV) := [(0, V), (3, .ptr 0 0), (4, iv (Int.ofNat p)), (7, .ptr 1 0), (8, iv (Int.ofNat i))]
def hOut (i : Nat) (x : It) : ClaimT := hintL [(fDrains, 15, 2, hv (.lit true)), (fDrains, 17, 1, hv (.tuple [itA x, .lit true])), (fDrains, 18, 1, hv (.lit false)), (fDrains, 16, 1, hv (iv (Int.ofNat (i + 1))))]
theorem oLoopOut_eq (W : World) (oa : Option Addr) (items : List It) (n c p i : Nat) (x last : It) (L : List It) (F : HP) : wLoop conR (hOut i x) [(fDrains, 22, loopN fDrains 22, findLc (slV oa n c) items n p i L last x)] W fDrains (loopN fDrains 15) (tms 0 84 (aOut (slV oa n c) p i)) [(0, lO (x :: L)), (1, boxO last)] [0, 1] [0, 3, 4, 7, 8] F = VT.ite (decide (Int.ofNat i > Int.ofNat 0)) (VT.ite (!ahead (It.mk last.a last.b last.c) (It.mk x.a x.b x.c)) (VT.leaf (AX.ret, [AV.v (Value.slice oa n c), AV.ptr 0 0, AV.v (Value.int IntKind.i64 (Int.ofNat p)), AV.ptr 1 0, AV.v (Value.int IntKind.i64 (Int.ofNat i))], 84) [some (AO.own (Md.line (x :: L).tail) (lH (x :: L).tail)), some (AO.cells [AV.v (Value.int IntKind.i64 last.a), AV.v (Value.int IntKind.i64 last.b), AV.v (Value.int IntKind.i64 last.c)] 54)] 1101 (((Cnd.p (Wk (AV.v (Value.bool (decide (Int.ofNat i < Int.ofNat p)))) (AV.lit true))).a Cnd.t).a (((Cnd.p (VW [AV.ptr 0 0] [AV.ptr 0 0])).a ((Cnd.p (OW (AO.own (Md.line (x :: L)) (lH (x :: L))) (AO.own (Md.line (x :: L)) (lH (x :: L))))).a ((Cnd.p (Wk (AV.tuple [AV.agg [AV.v (Value.int IntKind.i64 ((x :: L).headD It.zero).a), AV.v (Value.int IntKind.i64 ((x :: L).headD It.zero).b), AV.v (Value.int IntKind.i64 ((x :: L).headD It.zero).c)], AV.v (Value.bool true)]) (AV.tuple [AV.agg [AV.v (Value.int IntKind.i64 x.a), AV.v (Value.int IntKind.i64 x.b), AV.v (Value.int IntKind.i64 x.c)], AV.lit true]))).a Cnd.t))).a (((Cnd.p (true = true)).a Cnd.t).a (((Cnd.p (Wk (AV.v (Value.bool false)) (AV.lit false))).a Cnd.t).a (((Cnd.p (true = true)).a ((Cnd.p ([AV.v (Value.int IntKind.i64 last.a), AV.v (Value.int IntKind.i64 last.b), AV.v (Value.int IntKind.i64 last.c)] = [AV.v (Value.int IntKind.i64 last.a), AV.v (Value.int IntKind.i64 last.b), AV.v (Value.int IntKind.i64 last.c)])).a Cnd.t)).a (((Cnd.p (true = true)).a ((Cnd.p ([AV.v (Value.int IntKind.i64 x.a), AV.v (Value.int IntKind.i64 x.b), AV.v (Value.int IntKind.i64 x.c)] = [AV.v (Value.int IntKind.i64 x.a), AV.v (Value.int IntKind.i64 x.b), AV.v (Value.int IntKind.i64 x.c)])).a Cnd.t)).a (((Cnd.p (VW [AV.agg [AV.v (Value.int IntKind.i64 last.a), AV.v (Value.int IntKind.i64 last.b), AV.v (Value.int IntKind.i64 last.c)], AV.agg [AV.v (Value.int IntKind.i64 x.a), AV.v (Value.int IntKind.i64 x.b), AV.v (Value.int IntKind.i64 x.c)]] [AV.agg [AV.v (Value.int IntKind.i64 last.a), AV.v (Value.int IntKind.i64 last.b), AV.v (Value.int IntKind.i64 last.c)], AV.agg [AV.v (Value.int IntKind.i64 x.a), AV.v (Value.int IntKind.i64 x.b), AV.v (Value.int IntKind.i64 x.c)]])).a Cnd.t).a Cnd.t)))))))) (VT.ite (!fnd items x) (VT.leaf (AX.ret, [AV.v (Value.slice oa n c), AV.ptr 0 0, AV.v (Value.int IntKind.i64 (Int.ofNat p)), AV.ptr 1 0, AV.v (Value.int IntKind.i64 (Int.ofNat i))], 84) [some (AO.own (Md.line L) (lH L)), some (AO.cells [AV.v (Value.int IntKind.i64 last.a), AV.v (Value.int IntKind.i64 last.b), AV.v (Value.int IntKind.i64 last.c)] 54)] 1101 (((Cnd.p (Wk (AV.v (Value.bool (decide (Int.ofNat i < Int.ofNat p)))) (AV.lit true))).a Cnd.t).a (((Cnd.p (VW [AV.ptr 0 0] [AV.ptr 0 0])).a ((Cnd.p (OW (AO.own (Md.line (x :: L)) (lH (x :: L))) (AO.own (Md.line (x :: L)) (lH (x :: L))))).a ((Cnd.p (Wk (AV.tuple [AV.agg [AV.v (Value.int IntKind.i64 ((x :: L).headD It.zero).a), AV.v (Value.int IntKind.i64 ((x :: L).headD It.zero).b), AV.v (Value.int IntKind.i64 ((x :: L).headD It.zero).c)], AV.v (Value.bool true)]) (AV.tuple [AV.agg [AV.v (Value.int IntKind.i64 x.a), AV.v (Value.int IntKind.i64 x.b), AV.v (Value.int IntKind.i64 x.c)], AV.lit true]))).a Cnd.t))).a (((Cnd.p (true = true)).a Cnd.t).a (((Cnd.p (Wk (AV.v (Value.bool false)) (AV.lit false))).a Cnd.t).a (((Cnd.p (true = true)).a ((Cnd.p ([AV.v (Value.int IntKind.i64 last.a), AV.v (Value.int IntKind.i64 last.b), AV.v (Value.int IntKind.i64 last.c)] = [AV.v (Value.int IntKind.i64 last.a), AV.v (Value.int IntKind.i64 last.b), AV.v (Value.int IntKind.i64 last.c)])).a Cnd.t)).a (((Cnd.p (true = true)).a ((Cnd.p ([AV.v (Value.int IntKind.i64 x.a), AV.v (Value.int IntKind.i64 x.b), AV.v (Value.int IntKind.i64 x.c)] = [AV.v (Value.int IntKind.i64 x.a), AV.v (Value.int IntKind.i64 x.b), AV.v (Value.int IntKind.i64 x.c)])).a Cnd.t)).a (((Cnd.p (VW [AV.agg [AV.v (Value.int IntKind.i64 last.a), AV.v (Value.int IntKind.i64 last.b), AV.v (Value.int IntKind.i64 last.c)], AV.agg [AV.v (Value.int IntKind.i64 x.a), AV.v (Value.int IntKind.i64 x.b), AV.v (Value.int IntKind.i64 x.c)]] [AV.agg [AV.v (Value.int IntKind.i64 last.a), AV.v (Value.int IntKind.i64 last.b), AV.v (Value.int IntKind.i64 last.c)], AV.agg [AV.v (Value.int IntKind.i64 x.a), AV.v (Value.int IntKind.i64 x.b), AV.v (Value.int IntKind.i64 x.c)]])).a Cnd.t).a ((Cnd.p ((fDrains, 22, loopN fDrains 22, findLc (slV oa n c) items n p i L last x).snd.snd.fst = (fDrains, 22, loopN fDrains 22, findLc (slV oa n c) items n p i L last x).snd.snd.fst)).a ((Cnd.p (VW [AV.v (Value.slice oa n c), AV.any, AV.any, AV.ptr 0 0, AV.v (Value.int IntKind.i64 (Int.ofNat p)), AV.any, AV.any, AV.ptr 1 0, AV.v (Value.int IntKind.i64 (Int.ofNat i)), AV.ptr 1100 0, AV.lit true, AV.v (Value.bool false), AV.any, AV.any, AV.any, AV.any, AV.any, AV.any, AV.any, AV.any, AV.any, AV.any, AV.any, AV.any, AV.any, AV.any, AV.any, AV.any, AV.any, AV.any, AV.any, AV.any, AV.any, AV.any, AV.v (Value.int IntKind.i64 (Int.ofNat i)), AV.v (Value.int IntKind.i64 (Int.ofNat p)), AV.lit true, AV.any, AV.any, AV.tuple [AV.agg [AV.v (Value.int IntKind.i64 x.a), AV.v (Value.int IntKind.i64 x.b), AV.v (Value.int IntKind.i64 x.c)], AV.lit true], AV.ptr 0 0, AV.tuple [AV.agg [AV.v (Value.int IntKind.i64 x.a), AV.v (Value.int IntKind.i64 x.b), AV.v (Value.int IntKind.i64 x.c)], AV.lit true], AV.agg [AV.v (Value.int IntKind.i64 x.a), AV.v (Value.int IntKind.i64 x.b), AV.v (Value.int IntKind.i64 x.c)], AV.lit true, AV.lit true, AV.lit false, AV.lit false, AV.v (Value.int IntKind.i64 (Int.ofNat i)), AV.v (Value.bool (decide (Int.ofNat i > Int.ofNat 0))), AV.lit true, AV.agg [AV.v (Value.int IntKind.i64 last.a), AV.v (Value.int IntKind.i64 last.b), AV.v (Value.int IntKind.i64 last.c)], AV.agg [AV.v (Value.int IntKind.i64 x.a), AV.v (Value.int IntKind.i64 x.b), AV.v (Value.int IntKind.i64 x.c)], AV.v (Value.bool (ahead (It.mk last.a last.b last.c) (It.mk x.a x.b x.c))), AV.v (Value.bool !ahead (It.mk last.a last.b last.c) (It.mk x.a x.b x.c)), AV.v (Value.bool !ahead (It.mk last.a last.b last.c) (It.mk x.a x.b x.c)), AV.lit false, AV.v (Value.slice oa n c), AV.v (Value.int IntKind.i64 ↑n), AV.v (Value.int IntKind.i64 (Int.ofNat 0)), AV.any, AV.any, AV.any, AV.any, AV.any, AV.any, AV.any, AV.any, AV.any, AV.any, AV.any, AV.any, AV.any, AV.any, AV.any, AV.any, AV.any, AV.any, AV.any, AV.any, AV.any, AV.any, AV.any, AV.any, AV.any] [AV.v (Value.slice oa n c), AV.any, AV.any, AV.ptr 0 0, AV.v (Value.int IntKind.i64 (Int.ofNat p)), AV.any, AV.any, AV.ptr 1 0, AV.v (Value.int IntKind.i64 (Int.ofNat i)), AV.ptr 1100 0, AV.any, AV.v (Value.bool false), AV.any, AV.any, AV.any, AV.any, AV.any, AV.any, AV.any, AV.any, AV.any, AV.any, AV.any, AV.any, AV.any, AV.any, AV.any, AV.any, AV.any, AV.any, AV.any, AV.any, AV.any, AV.any, AV.any, AV.any, AV.any, AV.any, AV.any, AV.any, AV.any, AV.any, AV.any, AV.any, AV.any, AV.any, AV.any, AV.any, AV.any, AV.any, AV.any, AV.any, AV.any, AV.any, AV.any, AV.any, AV.v (Value.slice oa n c), AV.v (Value.int IntKind.i64 (Int.ofNat n)), AV.v (Value.int IntKind.i64 (Int.ofNat 0)), AV.any, AV.any, AV.any, AV.any, AV.any, AV.any, AV.any, AV.any, AV.any, AV.any, AV.any, AV.any, AV.any, AV.any, AV.any, AV.any, AV.any, AV.any, AV.any, AV.any, AV.any, AV.any, AV.any, AV.any, AV.any])).a ((Cnd.p (OW (AO.own (Md.line (x :: L).tail) (lH (x :: L).tail)) (AO.own (Md.line L) (lH L)))).a ((Cnd.p (OW (AO.cells [AV.v (Value.int IntKind.i64 last.a), AV.v (Value.int IntKind.i64 last.b), AV.v (Value.int IntKind.i64 last.c)] 54) (AO.cells [AV.v (Value.int IntKind.i64 last.a), AV.v (Value.int IntKind.i64 last.b), AV.v (Value.int IntKind.i64 last.c)] 54))).a ((Cnd.p (OW (AO.cells [AV.v (Value.int IntKind.i64 x.a), AV.v (Value.int IntKind.i64 x.b), AV.v (Value.int IntKind.i64 x.c)] 54) (AO.cells [AV.v (Value.int IntKind.i64 x.a), AV.v (Value.int IntKind.i64 x.b), AV.v (Value.int IntKind.i64 x.c)] 54))).a Cnd.t))))))))))))) (VT.leaf (AX.normal, [AV.v (Value.slice oa n c), AV.ptr 0 0, AV.v (Value.int IntKind.i64 (Int.ofNat p)), AV.ptr 1 0, AV.v (Value.int IntKind.i64 (Int.ofNat (i + 1)))], 84) [some (AO.own (Md.line L) (lH L)), some (AO.cells [AV.v (Value.int IntKind.i64 x.a), AV.v (Value.int IntKind.i64 x.b), AV.v (Value.int IntKind.i64 x.c)] 54)] 1101 (((Cnd.p (Wk (AV.v (Value.bool (decide (Int.ofNat i < Int.ofNat p)))) (AV.lit true))).a Cnd.t).a (((Cnd.p (VW [AV.ptr 0 0] [AV.ptr 0 0])).a ((Cnd.p (OW (AO.own (Md.line (x :: L)) (lH (x :: L))) (AO.own (Md.line (x :: L)) (lH (x :: L))))).a ((Cnd.p (Wk (AV.tuple [AV.agg [AV.v (Value.int IntKind.i64 ((x :: L).headD It.zero).a), AV.v (Value.int IntKind.i64 ((x :: L).headD It.zero).b), AV.v (Value.int IntKind.i64 ((x :: L).headD It.zero).c)], AV.v (Value.bool true)]) (AV.tuple [AV.agg [AV.v (Value.int IntKind.i64 x.a), AV.v (Value.int IntKind.i64 x.b), AV.v (Value.int IntKind.i64 x.c)], AV.lit true]))).a Cnd.t))).a (((Cnd.p (true = true)).a Cnd.t).a (((Cnd.p (Wk (AV.v (Value.bool false)) (AV.lit false))).a Cnd.t).a (((Cnd.p (true = true)).a ((Cnd.p ([AV.v (Value.int IntKind.i64 last.a), AV.v (Value.int IntKind.i64 last.b), AV.v (Value.int IntKind.i64 last.c)] = [AV.v (Value.int IntKind.i64 last.a), AV.v (Value.int IntKind.i64 last.b), AV.v (Value.int IntKind.i64 last.c)])).a Cnd.t)).a (((Cnd.p (true = true)).a ((Cnd.p ([AV.v (Value.int IntKind.i64 x.a), AV.v (Value.int IntKind.i64 x.b), AV.v (Value.int IntKind.i64 x.c)] = [AV.v (Value.int IntKind.i64 x.a), AV.v (Value.int IntKind.i64 x.b), AV.v (Value.int IntKind.i64 x.c)])).a Cnd.t)).a (((Cnd.p (VW [AV.agg [AV.v (Value.int IntKind.i64 last.a), AV.v (Value.int IntKind.i64 last.b), AV.v (Value.int IntKind.i64 last.c)], AV.agg [AV.v (Value.int IntKind.i64 x.a), AV.v (Value.int IntKind.i64 x.b), AV.v (Value.int IntKind.i64 x.c)]] [AV.agg [AV.v (Value.int IntKind.i64 last.a), AV.v (Value.int IntKind.i64 last.b), AV.v (Value.int IntKind.i64 last.c)], AV.agg [AV.v (Value.int IntKind.i64 x.a), AV.v (Value.int IntKind.i64 x.b), AV.v (Value.int IntKind.i64 x.c)]])).a Cnd.t).a ((Cnd.p ((fDrains, 22, loopN fDrains 22, findLc (slV oa n c) items n p i L last x).snd.snd.fst = (fDrains, 22, loopN fDrains 22, findLc (slV oa n c) items n p i L last x).snd.snd.fst)).a ((Cnd.p (VW [AV.v (Value.slice oa n c), AV.any, AV.any, AV.ptr 0 0, AV.v (Value.int IntKind.i64 (Int.ofNat p)), AV.any, AV.any, AV.ptr 1 0, AV.v (Value.int IntKind.i64 (Int.ofNat i)), AV.ptr 1100 0, AV.lit true, AV.v (Value.bool false), AV.any, AV.any, AV.any, AV.any, AV.any, AV.any, AV.any, AV.any, AV.any, AV.any, AV.any, AV.any, AV.any, AV.any, AV.any, AV.any, AV.any, AV.any, AV.any, AV.any, AV.any, AV.any, AV.v (Value.int IntKind.i64 (Int.ofNat i)), AV.v (Value.int IntKind.i64 (Int.ofNat p)), AV.lit true, AV.any, AV.any, AV.tuple [AV.agg [AV.v (Value.int IntKind.i64 x.a), AV.v (Value.int IntKind.i64 x.b), AV.v (Value.int IntKind.i64 x.c)], AV.lit true], AV.ptr 0 0, AV.tuple [AV.agg [AV.v (Value.int IntKind.i64 x.a), AV.v (Value.int IntKind.i64 x.b), AV.v (Value.int IntKind.i64 x.c)], AV.lit true], AV.agg [AV.v (Value.int IntKind.i64 x.a), AV.v (Value.int IntKind.i64 x.b), AV.v (Value.int IntKind.i64 x.c)], AV.lit true, AV.lit true, AV.lit false, AV.lit false, AV.v (Value.int IntKind.i64 (Int.ofNat i)), AV.v (Value.bool (decide (Int.ofNat i > Int.ofNat 0))), AV.lit true, AV.agg [AV.v (Value.int IntKind.i64 last.a), AV.v (Value.int IntKind.i64 last.b), AV.v (Value.int IntKind.i64 last.c)], AV.agg [AV.v (Value.int IntKind.i64 x.a), AV.v (Value.int IntKind.i64 x.b), AV.v (Value.int IntKind.i64 x.c)], AV.v (Value.bool (ahead (It.mk last.a last.b last.c) (It.mk x.a x.b x.c))), AV.v (Value.bool !ahead (It.mk last.a last.b last.c) (It.mk x.a x.b x.c)), AV.v (Value.bool !ahead (It.mk last.a last.b last.c) (It.mk x.a x.b x.c)), AV.lit false, AV.v (Value.slice oa n c), AV.v (Value.int IntKind.i64 ↑n), AV.v (Value.int IntKind.i64 (Int.ofNat 0)), AV.any, AV.any, AV.any, AV.any, AV.any, AV.any, AV.any, AV.any, AV.any, AV.any, AV.any, AV.any, AV.any, AV.any, AV.any, AV.any, AV.any, AV.any, AV.any, AV.any, AV.any, AV.any, AV.any, AV.any, AV.any] [AV.v (Value.slice oa n c), AV.any, AV.any, AV.ptr 0 0, AV.v (Value.int IntKind.i64 (Int.ofNat p)), AV.any, AV.any, AV.ptr 1 0, AV.v (Value.int IntKind.i64 (Int.ofNat i)), AV.ptr 1100 0, AV.any, AV.v (Value.bool false), AV.any, AV.any, AV.any, AV.any, AV.any, AV.any, AV.any, AV.any, AV.any, AV.any, AV.any, AV.any, AV.any, AV.any, AV.any, AV.any, AV.any, AV.any, AV.any, AV.any, AV.any, AV.any, AV.any, AV.any, AV.any, AV.any, AV.any, AV.any, AV.any, AV.any, AV.any, AV.any, AV.any, AV.any, AV.any, AV.any, AV.any, AV.any, AV.any, AV.any, AV.any, AV.any, AV.any, AV.any, AV.v (Value.slice oa n c), AV.v (Value.int IntKind.i64 (Int.ofNat n)), AV.v (Value.int IntKind.i64 (Int.ofNat 0)), AV.any, AV.any, AV.any, AV.any, AV.any, AV.any, AV.any, AV.any, AV.any, AV.any, AV.any, AV.any, AV.any, AV.any, AV.any, AV.any, AV.any, AV.any, AV.any, AV.any, AV.any, AV.any, AV.any, AV.any, AV.any])).a ((Cnd.p (OW (AO.own (Md.line (x :: L).tail) (lH (x :: L).tail)) (AO.own (Md.line L) (lH L)))).a ((Cnd.p (OW (AO.cells [AV.v (Value.int IntKind.i64 last.a), AV.v (Value.int IntKind.i64 last.b), AV.v (Value.int IntKind.i64 last.c)] 54) (AO.cells [AV.v (Value.int IntKind.i64 last.a), AV.v (Value.int IntKind.i64 last.b), AV.v (Value.int IntKind.i64 last.c)] 54))).a ((Cnd.p (OW (AO.cells [AV.v (Value.int IntKind.i64 x.a), AV.v (Value.int IntKind.i64 x.b), AV.v (Value.int IntKind.i64 x.c)] 54) (AO.cells [AV.v (Value.int IntKind.i64 x.a), AV.v (Value.int IntKind.i64 x.b), AV.v (Value.int IntKind.i64 x.c)] 54))).a (((Cnd.p (true = true)).a ((Cnd.p ([AV.v (Value.int IntKind.i64 x.a), AV.v (Value.int IntKind.i64 x.b), AV.v (Value.int IntKind.i64 x.c)] = [AV.v (Value.int IntKind.i64 x.a), AV.v (Value.int IntKind.i64 x.b), AV.v (Value.int IntKind.i64 x.c)])).a Cnd.t)).a (((Cnd.p (true = true)).a Cnd.t).a (((Cnd.p (Wk (AV.v (Value.int IntKind.i64 (IntKind.i64.wrap (Int.ofNat i + Int.ofNat 1)))) (AV.v (Value.int IntKind.i64 (Int.ofNat (i + 1)))))).a Cnd.t).a Cnd.t)))))))))))))))))) (VT.ite (!fnd items x) (VT.leaf (AX.ret, [AV.v (Value.slice oa n c), AV.ptr 0 0, AV.v (Value.int IntKind.i64 (Int.ofNat p)), AV.ptr 1 0, AV.v (Value.int IntKind.i64 (Int.ofNat i))], 84) [some (AO.own (Md.line L) (lH L)), some (AO.cells [AV.v (Value.int IntKind.i64 last.a), AV.v (Value.int IntKind.i64 last.b), AV.v (Value.int IntKind.i64 last.c)] 54)] 1101 (((Cnd.p (Wk (AV.v (Value.bool (decide (Int.ofNat i < Int.ofNat p)))) (AV.lit true))).a Cnd.t).a (((Cnd.p (VW [AV.ptr 0 0] [AV.ptr 0 0])).a ((Cnd.p (OW (AO.own (Md.line (x :: L)) (lH (x :: L))) (AO.own (Md.line (x :: L)) (lH (x :: L))))).a ((Cnd.p (Wk (AV.tuple [AV.agg [AV.v (Value.int IntKind.i64 ((x :: L).headD It.zero).a), AV.v (Value.int IntKind.i64 ((x :: L).headD It.zero).b), AV.v (Value.int IntKind.i64 ((x :: L).headD It.zero).c)], AV.v (Value.bool true)]) (AV.tuple [AV.agg [AV.v (Value.int IntKind.i64 x.a), AV.v (Value.int IntKind.i64 x.b), AV.v (Value.int IntKind.i64 x.c)], AV.lit true]))).a Cnd.t))).a (((Cnd.p (true = true)).a Cnd.t).a (((Cnd.p (Wk (AV.v (Value.bool false)) (AV.lit false))).a Cnd.t).a ((Cnd.p ((fDrains, 22, loopN fDrains 22, findLc (slV oa n c) items n p i L last x).snd.snd.fst = (fDrains, 22, loopN fDrains 22, findLc (slV oa n c) items n p i L last x).snd.snd.fst)).a ((Cnd.p (VW [AV.v (Value.slice oa n c), AV.any, AV.any, AV.ptr 0 0, AV.v (Value.int IntKind.i64 (Int.ofNat p)), AV.any, AV.any, AV.ptr 1 0, AV.v (Value.int IntKind.i64 (Int.ofNat i)), AV.ptr 1100 0, AV.lit true, AV.v (Value.bool false), AV.any, AV.any, AV.any, AV.any, AV.any, AV.any, AV.any, AV.any, AV.any, AV.any, AV.any, AV.any, AV.any, AV.any, AV.any, AV.any, AV.any, AV.any, AV.any, AV.any, AV.any, AV.any, AV.v (Value.int IntKind.i64 (Int.ofNat i)), AV.v (Value.int IntKind.i64 (Int.ofNat p)), AV.lit true, AV.any, AV.any, AV.tuple [AV.agg [AV.v (Value.int IntKind.i64 x.a), AV.v (Value.int IntKind.i64 x.b), AV.v (Value.int IntKind.i64 x.c)], AV.lit true], AV.ptr 0 0, AV.tuple [AV.agg [AV.v (Value.int IntKind.i64 x.a), AV.v (Value.int IntKind.i64 x.b), AV.v (Value.int IntKind.i64 x.c)], AV.lit true], AV.agg [AV.v (Value.int IntKind.i64 x.a), AV.v (Value.int IntKind.i64 x.b), AV.v (Value.int IntKind.i64 x.c)], AV.lit true, AV.lit true, AV.lit false, AV.lit false, AV.v (Value.int IntKind.i64 (Int.ofNat i)), AV.v (Value.bool (decide (Int.ofNat i > Int.ofNat 0))), AV.lit false, AV.v (Value.tuple (Array.mk [])), AV.v (Value.tuple (Array.mk [])), AV.v (Value.tuple (Array.mk [])), AV.v (Value.tuple (Array.mk [])), AV.lit false, AV.lit false, AV.v (Value.slice oa n c), AV.v (Value.int IntKind.i64 ↑n), AV.v (Value.int IntKind.i64 (Int.ofNat 0)), AV.any, AV.any, AV.any, AV.any, AV.any, AV.any, AV.any, AV.any, AV.any, AV.any, AV.any, AV.any, AV.any, AV.any, AV.any, AV.any, AV.any, AV.any, AV.any, AV.any, AV.any, AV.any, AV.any, AV.any, AV.any] [AV.v (Value.slice oa n c), AV.any, AV.any, AV.ptr 0 0, AV.v (Value.int IntKind.i64 (Int.ofNat p)), AV.any, AV.any, AV.ptr 1 0, AV.v (Value.int IntKind.i64 (Int.ofNat i)), AV.ptr 1100 0, AV.any, AV.v (Value.bool false), AV.any, AV.any, AV.any, AV.any, AV.any, AV.any, AV.any, AV.any, AV.any, AV.any, AV.any, AV.any, AV.any, AV.any, AV.any, AV.any, AV.any, AV.any, AV.any, AV.any, AV.any, AV.any, AV.any, AV.any, AV.any, AV.any, AV.any, AV.any, AV.any, AV.any, AV.any, AV.any, AV.any, AV.any, AV.any, AV.any, AV.any, AV.any, AV.any, AV.any, AV.any, AV.any, AV.any, AV.any, AV.v (Value.slice oa n c), AV.v (Value.int IntKind.i64 (Int.ofNat n)), AV.v (Value.int IntKind.i64 (Int.ofNat 0)), AV.any, AV.any, AV.any, AV.any, AV.any, AV.any, AV.any, AV.any, AV.any, AV.any, AV.any, AV.any, AV.any, AV.any, AV.any, AV.any, AV.any, AV.any, AV.any, AV.any, AV.any, AV.any, AV.any, AV.any, AV.any])).a ((Cnd.p (OW (AO.own (Md.line (x :: L).tail) (lH (x :: L).tail)) (AO.own (Md.line L) (lH L)))).a ((Cnd.p (OW (AO.cells [AV.v (Value.int IntKind.i64 last.a), AV.v (Value.int IntKind.i64 last.b), AV.v (Value.int IntKind.i64 last.c)] 54) (AO.cells [AV.v (Value.int IntKind.i64 last.a), AV.v (Value.int IntKind.i64 last.b), AV.v (Value.int IntKind.i64 last.c)] 54))).a ((Cnd.p (OW (AO.cells [AV.v (Value.int IntKind.i64 x.a), AV.v (Value.int IntKind.i64 x.b), AV.v (Value.int IntKind.i64 x.c)] 54) (AO.cells [AV.v (Value.int IntKind.i64 x.a), AV.v (Value.int IntKind.i64 x.b), AV.v (Value.int IntKind.i64 x.c)] 54))).a Cnd.t)))))))))) (VT.leaf (AX.normal, [AV.v (Value.slice oa n c), AV.ptr 0 0, AV.v (Value.int IntKind.i64 (Int.ofNat p)), AV.ptr 1 0, AV.v (Value.int IntKind.i64 (Int.ofNat (i + 1)))], 84) [some (AO.own (Md.line L) (lH L)), some (AO.cells [AV.v (Value.int IntKind.i64 x.a), AV.v (Value.int IntKind.i64 x.b), AV.v (Value.int IntKind.i64 x.c)] 54)] 1101 (((Cnd.p (Wk (AV.v (Value.bool (decide (Int.ofNat i < Int.ofNat p)))) (AV.lit true))).a Cnd.t).a (((Cnd.p (VW [AV.ptr 0 0] [AV.ptr 0 0])).a ((Cnd.p (OW (AO.own (Md.line (x :: L)) (lH (x :: L))) (AO.own (Md.line (x :: L)) (lH (x :: L))))).a ((Cnd.p (Wk (AV.tuple [AV.agg [AV.v (Value.int IntKind.i64 ((x :: L).headD It.zero).a), AV.v (Value.int IntKind.i64 ((x :: L).headD It.zero).b), AV.v (Value.int IntKind.i64 ((x :: L).headD It.zero).c)], AV.v (Value.bool true)]) (AV.tuple [AV.agg [AV.v (Value.int IntKind.i64 x.a), AV.v (Value.int IntKind.i64 x.b), AV.v (Value.int IntKind.i64 x.c)], AV.lit true]))).a Cnd.t))).a (((Cnd.p (true = true)).a Cnd.t).a (((Cnd.p (Wk (AV.v (Value.bool false)) (AV.lit false))).a Cnd.t).a ((Cnd.p ((fDrains, 22, loopN fDrains 22, findLc (slV oa n c) items n p i L last x).snd.snd.fst = (fDrains, 22, loopN fDrains 22, findLc (slV oa n c) items n p i L last x).snd.snd.fst)).a ((Cnd.p (VW [AV.v (Value.slice oa n c), AV.any, AV.any, AV.ptr 0 0, AV.v (Value.int IntKind.i64 (Int.ofNat p)), AV.any, AV.any, AV.ptr 1 0, AV.v (Value.int IntKind.i64 (Int.ofNat i)), AV.ptr 1100 0, AV.lit true, AV.v (Value.bool false), AV.any, AV.any, AV.any, AV.any, AV.any, AV.any, AV.any, AV.any, AV.any, AV.any, AV.any, AV.any, AV.any, AV.any, AV.any, AV.any, AV.any, AV.any, AV.any, AV.any, AV.any, AV.any, AV.v (Value.int IntKind.i64 (Int.ofNat i)), AV.v (Value.int IntKind.i64 (Int.ofNat p)), AV.lit true, AV.any, AV.any, AV.tuple [AV.agg [AV.v (Value.int IntKind.i64 x.a), AV.v (Value.int IntKind.i64 x.b), AV.v (Value.int IntKind.i64 x.c)], AV.lit true], AV.ptr 0 0, AV.tuple [AV.agg [AV.v (Value.int IntKind.i64 x.a), AV.v (Value.int IntKind.i64 x.b), AV.v (Value.int IntKind.i64 x.c)], AV.lit true], AV.agg [AV.v (Value.int IntKind.i64 x.a), AV.v (Value.int IntKind.i64 x.b), AV.v (Value.int IntKind.i64 x.c)], AV.lit true, AV.lit true, AV.lit false, AV.lit false, AV.v (Value.int IntKind.i64 (Int.ofNat i)), AV.v (Value.bool (decide (Int.ofNat i > Int.ofNat 0))), AV.lit false, AV.v (Value.tuple (Array.mk [])), AV.v (Value.tuple (Array.mk [])), AV.v (Value.tuple (Array.mk [])), AV.v (Value.tuple (Array.mk [])), AV.lit false, AV.lit false, AV.v (Value.slice oa n c), AV.v (Value.int IntKind.i64 ↑n), AV.v (Value.int IntKind.i64 (Int.ofNat 0)), AV.any, AV.any, AV.any, AV.any, AV.any, AV.any, AV.any, AV.any, AV.any, AV.any, AV.any, AV.any, AV.any, AV.any, AV.any, AV.any, AV.any, AV.any, AV.any, AV.any, AV.any, AV.any, AV.any, AV.any, AV.any] [AV.v (Value.slice oa n c), AV.any, AV.any, AV.ptr 0 0, AV.v (Value.int IntKind.i64 (Int.ofNat p)), AV.any, AV.any, AV.ptr 1 0, AV.v (Value.int IntKind.i64 (Int.ofNat i)), AV.ptr 1100 0, AV.any, AV.v (Value.bool false), AV.any, AV.any, AV.any, AV.any, AV.any, AV.any, AV.any, AV.any, AV.any, AV.any, AV.any, AV.any, AV.any, AV.any, AV.any, AV.any, AV.any, AV.any, AV.any, AV.any, AV.any, AV.any, AV.any, AV.any, AV.any, AV.any, AV.any, AV.any, AV.any, AV.any, AV.any, AV.any, AV.any, AV.any, AV.any, AV.any, AV.any, AV.any, AV.any, AV.any, AV.any, AV.any, AV.any, AV.any, AV.v (Value.slice oa n c), AV.v (Value.int IntKind.i64 (Int.ofNat n)), AV.v (Value.int IntKind.i64 (Int.ofNat 0)), AV.any, AV.any, AV.any, AV.any, AV.any, AV.any, AV.any, AV.any, AV.any, AV.any, AV.any, AV.any, AV.any, AV.any, AV.any, AV.any, AV.any, AV.any, AV.any, AV.any, AV.any, AV.any, AV.any, AV.any, AV.any])).a ((Cnd.p (OW (AO.own (Md.line (x :: L).tail) (lH (x :: L).tail)) (AO.own (Md.line L) (lH L)))).a ((Cnd.p (OW (AO.cells [AV.v (Value.int IntKind.i64 last.a), AV.v (Value.int IntKind.i64 last.b), AV.v (Value.int IntKind.i64 last.c)] 54) (AO.cells [AV.v (Value.int IntKind.i64 last.a), AV.v (Value.int IntKind.i64 last.b), AV.v (Value.int IntKind.i64 last.c)] 54))).a ((Cnd.p (OW (AO.cells [AV.v (Value.int IntKind.i64 x.a), AV.v (Value.int IntKind.i64 x.b), AV.v (Value.int IntKind.i64 x.c)] 54) (AO.cells [AV.v (Value.int IntKind.i64 x.a), AV.v (Value.int IntKind.i64 x.b), AV.v (Value.int IntKind.i64 x.c)] 54))).a (((Cnd.p (true = true)).a ((Cnd.p ([AV.v (Value.int IntKind.i64 x.a), AV.v (Value.int IntKind.i64 x.b), AV.v (Value.int IntKind.i64 x.c)] = [AV.v (Value.int IntKind.i64 x.a), AV.v (Value.int IntKind.i64 x.b), AV.v (Value.int IntKind.i64 x.c)])).a Cnd.t)).a (((Cnd.p (true = true)).a Cnd.t).a (((Cnd.p (Wk (AV.v (Value.int IntKind.i64 (IntKind.i64.wrap (Int.ofNat i + Int.ofNat 1)))) (AV.v (Value.int IntKind.i64 (Int.ofNat (i + 1)))))).a Cnd.t).a Cnd.t)))))))))))))) := by kernel_rfl
def hEnd : ClaimT := hintL [(fDrains, 15, 2, hv (.lit false))]
theorem oLoopEnd_eq (W : World) (oa : Option Addr) (n c p : Nat) (last : It) (F : HP) : wLoop conR hEnd [] W fDrains (loopN fDrains 15) (tms 0 84 (aOut (slV oa n c) p p)) [(0, lO []), (1, boxO last)] [0, 1] [0, 3, 4, 7, 8] F = VT.leaf (AX.exit 2, [AV.v (Value.slice oa n c), AV.ptr 0 0, AV.v (Value.int IntKind.i64 (Int.ofNat p)), AV.ptr 1 0, AV.v (Value.int IntKind.i64 (Int.ofNat p))], 84) [some (AO.own (Md.line []) (lH [])), some (AO.cells [AV.v (Value.int IntKind.i64 last.a), AV.v (Value.int IntKind.i64 last.b), AV.v (Value.int IntKind.i64 last.c)] 54)] 1100 (((Cnd.p (Wk (AV.v (Value.bool (decide (Int.ofNat p < Int.ofNat p)))) (AV.lit false))).a Cnd.t).a Cnd.t) := by kernel_rfl
def putAll (items : List It) : List It := items.foldl putL []
def putLc (V : AV) (items : List It) (n : Nat) : List AV → AP (AX × List AV) := fun tmps => match getL tmps 3 with
  | .ptr r 0 => useG (fun _ => r) (tms 0 84 (aPut V n 0 0)) tmps [(0, lO [])] (.leaf (.exit 0) (tms 0 84 (zPut V (putAll items).length)) [(0, lO (putAll items))])
  | _ => .fail "put"
def outLc (V : AV) (L : List It) : List AV → AP (AX × List AV) := fun tmps => match getL tmps 3 with
  | .ptr r0 0 => match getL tmps 7 with
    | .ptr r1 0 => useG (nm3 r0 r1 r1) (tms 0 84 (aOut V L.length 0)) tmps [(0, lO L), (1, boxO It.zero)] (.leaf (.exit 2) (tms 0 84 (aOut V L.length L.length)) [(0, lO []), (1, boxO (L.getLastD It.zero))])
    | _ => .fail "out"
  | _ => .fail "out"
def lcD (V : AV) (items : List It) (n : Nat) : List (FuncId × Nat × Code × (List AV → AP (AX × List AV))) := [(fDrains, 8, loopN fDrains 8, putLc V items n), (fDrains, 15, loopN fDrains 15, outLc V (putAll items))]
def hD : ClaimT := hintL [(fDrains, 1, 0, hv (.lit true)), (fDrains, 1, 1, hv (.lit false)), (fDrains, 4, 1, hv (.lit false)), (fDrains, 29, 1, hv (.tuple [itA It.zero, .lit false])), (fDrains, 30, 1, hv (.lit true)), (fDrains, 30, 5, hv (.lit true))]
theorem oDrains_eq (W : World) (oa : Option Addr) (items : List It) (n c : Nat) (F : HP) : wRun conR hD (lcD (slV oa n c) items n) W fDrains [slV oa n c] [] [] F = VT.leaf (AV.v (Value.bool true)) [] 1103 (((Cnd.p (VW [] [])).a ((Cnd.p (Wk (AV.v (Value.bool true)) (AV.lit true))).a Cnd.t)).a (((Cnd.p (Wk (AV.v (Value.bool false)) (AV.lit false))).a Cnd.t).a (((Cnd.p (VW [] [])).a Cnd.t).a (((Cnd.p (Wk (AV.v (Value.bool false)) (AV.lit false))).a Cnd.t).a ((Cnd.p ((fDrains, 8, loopN fDrains 8, putLc (slV oa n c) items n).snd.snd.fst = (fDrains, 8, loopN fDrains 8, putLc (slV oa n c) items n).snd.snd.fst)).a ((Cnd.p (VW [AV.v (Value.slice oa n c), AV.v (Value.tuple (Array.mk [])), AV.v (Value.bool false), AV.ptr 1100 0, AV.v (Value.int IntKind.i64 (Int.ofNat 0)), AV.v (Value.tuple (Array.mk [])), AV.v (Value.tuple (Array.mk [])), AV.v (Value.tuple (Array.mk [])), AV.v (Value.tuple (Array.mk [])), AV.v (Value.tuple (Array.mk [])), AV.v (Value.tuple (Array.mk [])), AV.v (Value.tuple (Array.mk [])), AV.v (Value.tuple (Array.mk [])), AV.v (Value.tuple (Array.mk [])), AV.v (Value.tuple (Array.mk [])), AV.v (Value.tuple (Array.mk [])), AV.lit true, AV.lit false, AV.ptr 1100 0, AV.ptr 1100 0, AV.lit false, AV.v (Value.slice oa n c), AV.v (Value.int IntKind.i64 ↑n), AV.v (Value.int IntKind.i64 (Int.ofNat 0)), AV.v (Value.tuple (Array.mk [])), AV.v (Value.tuple (Array.mk [])), AV.v (Value.tuple (Array.mk [])), AV.v (Value.tuple (Array.mk [])), AV.v (Value.tuple (Array.mk [])), AV.v (Value.tuple (Array.mk [])), AV.v (Value.tuple (Array.mk [])), AV.v (Value.tuple (Array.mk [])), AV.v (Value.tuple (Array.mk [])), AV.v (Value.tuple (Array.mk [])), AV.v (Value.tuple (Array.mk [])), AV.v (Value.tuple (Array.mk [])), AV.v (Value.tuple (Array.mk [])), AV.v (Value.tuple (Array.mk [])), AV.v (Value.tuple (Array.mk [])), AV.v (Value.tuple (Array.mk [])), AV.v (Value.tuple (Array.mk [])), AV.v (Value.tuple (Array.mk [])), AV.v (Value.tuple (Array.mk [])), AV.v (Value.tuple (Array.mk [])), AV.v (Value.tuple (Array.mk [])), AV.v (Value.tuple (Array.mk [])), AV.v (Value.tuple (Array.mk [])), AV.v (Value.tuple (Array.mk [])), AV.v (Value.tuple (Array.mk [])), AV.v (Value.tuple (Array.mk [])), AV.v (Value.tuple (Array.mk [])), AV.v (Value.tuple (Array.mk [])), AV.v (Value.tuple (Array.mk [])), AV.v (Value.tuple (Array.mk [])), AV.v (Value.tuple (Array.mk [])), AV.v (Value.tuple (Array.mk [])), AV.v (Value.tuple (Array.mk [])), AV.v (Value.tuple (Array.mk [])), AV.v (Value.tuple (Array.mk [])), AV.v (Value.tuple (Array.mk [])), AV.v (Value.tuple (Array.mk [])), AV.v (Value.tuple (Array.mk [])), AV.v (Value.tuple (Array.mk [])), AV.v (Value.tuple (Array.mk [])), AV.v (Value.tuple (Array.mk [])), AV.v (Value.tuple (Array.mk [])), AV.v (Value.tuple (Array.mk [])), AV.v (Value.tuple (Array.mk [])), AV.v (Value.tuple (Array.mk [])), AV.v (Value.tuple (Array.mk [])), AV.v (Value.tuple (Array.mk [])), AV.v (Value.tuple (Array.mk [])), AV.v (Value.tuple (Array.mk [])), AV.v (Value.tuple (Array.mk [])), AV.v (Value.tuple (Array.mk [])), AV.v (Value.tuple (Array.mk [])), AV.v (Value.tuple (Array.mk [])), AV.v (Value.tuple (Array.mk [])), AV.v (Value.tuple (Array.mk [])), AV.v (Value.tuple (Array.mk [])), AV.v (Value.tuple (Array.mk [])), AV.v (Value.tuple (Array.mk [])), AV.v (Value.tuple (Array.mk [])), AV.v (Value.tuple (Array.mk []))] [AV.v (Value.slice oa n c), AV.any, AV.any, AV.ptr 1100 0, AV.v (Value.int IntKind.i64 (Int.ofNat 0)), AV.any, AV.any, AV.any, AV.any, AV.any, AV.any, AV.any, AV.any, AV.any, AV.any, AV.any, AV.any, AV.any, AV.any, AV.any, AV.any, AV.v (Value.slice oa n c), AV.v (Value.int IntKind.i64 (Int.ofNat n)), AV.v (Value.int IntKind.i64 (Int.ofNat 0)), AV.any, AV.any, AV.any, AV.any, AV.any, AV.any, AV.any, AV.any, AV.any, AV.any, AV.any, AV.any, AV.any, AV.any, AV.any, AV.any, AV.any, AV.any, AV.any, AV.any, AV.any, AV.any, AV.any, AV.any, AV.any, AV.any, AV.any, AV.any, AV.any, AV.any, AV.any, AV.any, AV.any, AV.any, AV.any, AV.any, AV.any, AV.any, AV.any, AV.any, AV.any, AV.any, AV.any, AV.any, AV.any, AV.any, AV.any, AV.any, AV.any, AV.any, AV.any, AV.any, AV.any, AV.any, AV.any, AV.any, AV.any, AV.any, AV.any, AV.any])).a ((Cnd.p (OW (AO.own (Md.line []) (lH [])) (AO.own (Md.line []) (lH [])))).a (((Cnd.p (true = true)).a Cnd.t).a ((Cnd.p ((fDrains, 15, loopN fDrains 15, outLc (slV oa n c) (putAll items)).snd.snd.fst = (fDrains, 15, loopN fDrains 15, outLc (slV oa n c) (putAll items)).snd.snd.fst)).a ((Cnd.p (VW [AV.v (Value.slice oa n c), AV.any, AV.any, AV.ptr 1100 0, AV.v (Value.int IntKind.i64 (Int.ofNat (putAll items).length)), AV.any, AV.any, AV.ptr 1101 0, AV.v (Value.int IntKind.i64 (Int.ofNat 0)), AV.any, AV.any, AV.any, AV.any, AV.any, AV.any, AV.any, AV.any, AV.any, AV.any, AV.any, AV.any, AV.any, AV.any, AV.any, AV.any, AV.any, AV.any, AV.any, AV.any, AV.any, AV.any, AV.any, AV.any, AV.agg [AV.v (Value.int IntKind.i64 (Int.ofNat 0)), AV.v (Value.int IntKind.i64 (Int.ofNat 0)), AV.v (Value.int IntKind.i64 (Int.ofNat 0))], AV.any, AV.any, AV.any, AV.any, AV.any, AV.any, AV.any, AV.any, AV.any, AV.any, AV.any, AV.any, AV.any, AV.any, AV.any, AV.any, AV.any, AV.any, AV.any, AV.any, AV.any, AV.any, AV.any, AV.any, AV.any, AV.any, AV.any, AV.any, AV.any, AV.any, AV.any, AV.any, AV.any, AV.any, AV.any, AV.any, AV.any, AV.any, AV.any, AV.any, AV.any, AV.any, AV.any, AV.any, AV.any, AV.any, AV.any, AV.any, AV.any, AV.any] [AV.v (Value.slice oa n c), AV.any, AV.any, AV.ptr 1100 0, AV.v (Value.int IntKind.i64 (Int.ofNat (putAll items).length)), AV.any, AV.any, AV.ptr 1101 0, AV.v (Value.int IntKind.i64 (Int.ofNat 0)), AV.any, AV.any, AV.any, AV.any, AV.any, AV.any, AV.any, AV.any, AV.any, AV.any, AV.any, AV.any, AV.any, AV.any, AV.any, AV.any, AV.any, AV.any, AV.any, AV.any, AV.any, AV.any, AV.any, AV.any, AV.any, AV.any, AV.any, AV.any, AV.any, AV.any, AV.any, AV.any, AV.any, AV.any, AV.any, AV.any, AV.any, AV.any, AV.any, AV.any, AV.any, AV.any, AV.any, AV.any, AV.any, AV.any, AV.any, AV.any, AV.any, AV.any, AV.any, AV.any, AV.any, AV.any, AV.any, AV.any, AV.any, AV.any, AV.any, AV.any, AV.any, AV.any, AV.any, AV.any, AV.any, AV.any, AV.any, AV.any, AV.any, AV.any, AV.any, AV.any, AV.any, AV.any, AV.any])).a ((Cnd.p (OW (AO.own (Md.line (putAll items)) (lH (putAll items))) (AO.own (Md.line (putAll items)) (lH (putAll items))))).a ((Cnd.p (OW (AO.cells [AV.v (Value.int IntKind.i64 (Int.ofNat 0)), AV.v (Value.int IntKind.i64 (Int.ofNat 0)), AV.v (Value.int IntKind.i64 (Int.ofNat 0))] 54) (AO.cells [AV.v (Value.int IntKind.i64 (Int.ofNat 0)), AV.v (Value.int IntKind.i64 (Int.ofNat 0)), AV.v (Value.int IntKind.i64 (Int.ofNat 0))] 54))).a (((Cnd.p (VW [AV.ptr 1100 0] [AV.ptr 1100 0])).a ((Cnd.p (OW (AO.own (Md.line []) (lH [])) (AO.own (Md.line []) (lH [])))).a ((Cnd.p (Wk (AV.tuple [AV.agg [AV.v (Value.int IntKind.i64 (Int.ofNat 0)), AV.v (Value.int IntKind.i64 (Int.ofNat 0)), AV.v (Value.int IntKind.i64 (Int.ofNat 0))], AV.v (Value.bool false)]) (AV.tuple [AV.agg [AV.v (Value.int IntKind.i64 (Int.ofNat 0)), AV.v (Value.int IntKind.i64 (Int.ofNat 0)), AV.v (Value.int IntKind.i64 (Int.ofNat 0))], AV.lit false]))).a Cnd.t))).a (((Cnd.p (true = true)).a Cnd.t).a (((Cnd.p (Wk (AV.v (Value.bool true)) (AV.lit true))).a Cnd.t).a (((Cnd.p (VW [AV.ptr 1100 0] [AV.ptr 1100 0])).a ((Cnd.p (OW (AO.own (Md.line []) (lH [])) (AO.own (Md.line []) (lH [])))).a Cnd.t)).a (((Cnd.p (Wk (AV.v (Value.bool true)) (AV.lit true))).a Cnd.t).a Cnd.t))))))))))))))))) := by kernel_rfl
end
end Go.Proofs.Ytcpijmlaglcblaa.Rk

/- RanksDrains: every call answers true. -/
set_option linter.unusedVariables false
set_option linter.unusedSimpArgs false
set_option maxRecDepth 100000
namespace Go.Proofs.Ytcpijmlaglcblaa.Rk
open Go Go.RowKit Go.Proofs.Ytcpijmlaglcblaa.Eng
theorem item_eq (x y : It) : EqSem Try.prog 27 (Array.mk (enc x)) (Array.mk (enc y)) (valsQ (enc x) (enc y)) := by
  intro w
  have u3 := Try.underlying3
  have a3 := Try.isAgg3
  have z3 := Try.sizeOf3
  have hS : Try.prog.underlying 27 = some (.struct (Try.prog.fieldsOf 27)) := by kernel_rfl
  show (Op.equalIn 10000 27 (.agg #[.int .i64 x.a, .int .i64 x.b, .int .i64 x.c]) (.agg #[.int .i64 y.a, .int .i64 y.b, .int .i64 y.c])).run Try.prog w = _
  rw [show (10000 : Nat) = 9999 + 1 from rfl, run_equalIn_agg w 9999 _ _ _ hS (by kernel_rfl)]
  simp only [Program.fieldsOf, Try.underlying27]
  go_simp
  by_cases h1 : x.a = y.a <;> by_cases h2 : x.b = y.b <;> by_cases h3 : x.c = y.c <;> simp [valsQ, valQ, enc, h1, h2, h3]
theorem before_tri (x y : It) : Tri Try.prog default fBefore [itA x, itA y] [] (.v (.bool (ahead x y))) [] := by
  refine tri_run (con := []) (hints := noHints) (lc := []) [] rfl noC noL fun F => ?_
  rw [oBefore_eq]
  have fin : ∀ b, b = ahead x y → Fits [] [.v (.bool b)] [] [.v (.bool (ahead x y))] [] := fun b hb => (fit_mk [] rfl rfl (by subst hb; exact VW.refl _) (show ObjsOK [] [] [] [] from trivial)).fits rfl
  refine ⟨fun h1 => ⟨by simp only [Cnd.holds, and_self], fin _ ?_⟩, fun h1 => ⟨by simp only [Cnd.holds, and_self], fin _ ?_⟩⟩
  · simp only [bne_iff_ne, ne_eq] at h1
    have : (x.a == y.a) = false := beq_eq_false_iff_ne.2 h1
    simp only [ahead, ← gt_iff_lt, this, Bool.false_and, Bool.or_false]
  · have h2 : x.a = y.a := by simpa using h1
    simp [ahead, h2]
theorem speaks_calls (w : World) : Calls Try.prog fSpeaks (List.toArray []) w fun e w' => e = .returned (.bool true) ∧ Below w.heap.size w w' :=
  closed_call (args := []) mixed (fuel := 100000) (fun w => by kernel_rfl) w
theorem tri_closed {W : World} {f : FuncId} {args : List Value} {x : Value} (h : ∀ w, Calls Try.prog f args.toArray w fun e w' => e = .returned x ∧ Below w.heap.size w w') : Tri Try.prog W f (vmap args) [] (.v x) [] := by
  intro W0 F N w vargs hF hNB r ha
  have : vargs = args.toArray := by
    have := ha.of_vmap
    rw [← this]
  subst this
  refine (h w).mono ?_
  rintro e w' ⟨rfl, hb⟩
  exact ⟨x, rfl, N, fun _ _ => rfl, hNB, r.below hb, VRs_cons.2 ⟨VR_v.2 rfl, VRs_nil⟩⟩
theorem closedN {A : List AV} {v : AV} (ha : AV.cls (kH []) A) (hv : AV.cls (kR [] []) [v]) : ClosedC A [] [v] [] := ⟨rfl, rfl, ha, (fun x hx => by cases hx), hv, fun x hx => by cases hx⟩
theorem closedO' {A : List AV} {L L' : List It} {v : AV} (ha : AV.cls (kH [(0, lO L)]) A) (hv : AV.cls (kR [(0, lO L)] [(0, lO L')]) [v]) : ClosedC A [(0, lO L)] [v] [(0, lO L')] := closedO ha hv trivial trivial
theorem lineC_ok {F : HP} {f : FuncId} {L L' : List It} {A args : List AV} {i : Nat} {v0 : AV} (ht : Tri Try.prog default f A [(0, lO L)] v0 [(0, lO L')]) (ha : AV.cls (kH [(0, lO L)]) A) (hv : AV.cls (kR [(0, lO L)] [(0, lO L')]) [v0])
    {st : Bool} {W0 : World} {N : Names} {h : T} {w : World} {vargs : Array Value} {v : AV} {h' : T} {n n' : Nat} {lg lg' : Log} {c : Cnd} (he : (lineC i A args L v0 L').run st h n lg = .ok v h' n' lg' c) (hc : c.holds)
    (r : Rep W0 N F h w) (hargs : VRs N args vargs.toList) (hf : Fresh N n n') : Calls Try.prog f vargs w (CallPost W0 F N v h' n n') :=
  useC_ok oldDef ht rfl (closedO ha hv trivial trivial) he hc r hargs hf
theorem pureC_ok {F : HP} {f : FuncId} {A args : List AV} {v0 : AV} (ht : Tri Try.prog default f A [] v0 []) (ha : AV.cls (kH []) A) (hv : AV.cls (kR [] []) [v0])
    {st : Bool} {W0 : World} {N : Names} {h : T} {w : World} {vargs : Array Value} {v : AV} {h' : T} {n n' : Nat} {lg lg' : Log} {c : Cnd} (he : (useC (fun i => i) A args [] (.leaf .ret [v0] [])).run st h n lg = .ok v h' n' lg' c) (hc : c.holds)
    (r : Rep W0 N F h w) (hargs : VRs N args vargs.toList) (hf : Fresh N n n') : Calls Try.prog f vargs w (CallPost W0 F N v h' n n') :=
  useC_ok oldDef ht rfl (closedN ha hv) he hc r hargs hf
theorem cNew_ok (F : HP) : C1OK Try.prog F fNew cNew := by
  intro st W0 N h w args vargs v h' n n' lg lg' c p hp he hc r ha hf
  unfold cNew at hp
  split at hp
  · cases hp
    have hcl : ClosedC [] [] [.ptr 1000 0] [(1000, lO [])] := ⟨rfl, rfl, trivial, (fun x hx => by cases hx), ⟨rfl, trivial⟩, fun x hx => by simp only [List.mem_singleton] at hx; subst hx; trivial⟩
    exact useC_ok oldDef Anew_tri rfl hcl he hc r ha hf
  · cases hp
theorem cLPut_ok (F : HP) : C1OK Try.prog F fLPut cLPut := by
  intro st W0 N h w args vargs v h' n n' lg lg' c p hp he hc r ha hf
  unfold cLPut at hp
  split at hp
  · rename_i i a b c
    cases hp
    obtain ⟨m, lg1, he1⟩ := ownC_run he
    split at he1
    · rename_i L
      obtain ⟨c1, he2, rfl⟩ := run_need he1
      obtain ⟨h1, hc2⟩ := (Cnd.and_iff _ _).1 hc
      exact lineC_ok (Aput_tri L ⟨a, b, c⟩ h1) ⟨rfl, ⟨trivial, trivial, trivial, trivial⟩, trivial⟩ ⟨trivial, trivial⟩ he2 hc2 r ha hf
    · exact (inv_fail he1).elim
  · cases hp
theorem cLPop_ok (F : HP) : C1OK Try.prog F fLPop cLPop := by
  intro st W0 N h w args vargs v h' n n' lg lg' c p hp he hc r ha hf
  unfold cLPop at hp
  split at hp
  · cases hp
    obtain ⟨m, lg1, he1⟩ := ownC_run he
    split at he1
    · rename_i L
      exact lineC_ok (Apop_tri L) ⟨rfl, trivial⟩ ⟨⟨⟨trivial, trivial, trivial, trivial⟩, trivial, trivial⟩, trivial⟩ he1 hc r ha hf
    · exact (inv_fail he1).elim
  · cases hp
theorem cLLen_ok (F : HP) : C1OK Try.prog F fLLen cLLen := by
  intro st W0 N h w args vargs v h' n n' lg lg' c p hp he hc r ha hf
  unfold cLLen at hp
  split at hp
  · cases hp
    obtain ⟨m, lg1, he1⟩ := ownC_run he
    split at he1
    · rename_i L
      exact lineC_ok (Alen_tri L) ⟨rfl, trivial⟩ ⟨trivial, trivial⟩ he1 hc r ha hf
    · exact (inv_fail he1).elim
  · cases hp
theorem cBefore_ok (F : HP) : C1OK Try.prog F fBefore cBefore := by
  intro st W0 N h w args vargs v h' n n' lg lg' c p hp he hc r ha hf
  unfold cBefore at hp
  split at hp
  · rename_i a b c a' b' c'
    cases hp
    exact pureC_ok (before_tri ⟨a, b, c⟩ ⟨a', b', c'⟩) ⟨⟨trivial, trivial, trivial, trivial⟩, ⟨trivial, trivial, trivial, trivial⟩, trivial⟩ ⟨trivial, trivial⟩ he hc r ha hf
  · cases hp
theorem cSpeaks_ok (F : HP) : C1OK Try.prog F fSpeaks cSpeaks := by
  intro st W0 N h w args vargs v h' n n' lg lg' c p hp he hc r ha hf
  unfold cSpeaks at hp
  split at hp
  · cases hp
    exact pureC_ok (tri_closed (args := []) speaks_calls) trivial ⟨trivial, trivial⟩ he hc r ha hf
  · cases hp
theorem conR_ok : ∀ x ∈ conR, ∀ F, C1OK Try.prog F x.1 x.2 := by
  intro x hx F
  simp only [conR, List.mem_cons, List.not_mem_nil, or_false] at hx
  rcases hx with rfl | rfl | rfl | rfl | rfl | rfl
  · exact cNew_ok F
  · exact cLPut_ok F
  · exact cLPop_ok F
  · exact cLLen_ok F
  · exact cBefore_ok F
  · exact cSpeaks_ok F
theorem wk_lit (b : Bool) : Wk (.v (.bool b)) (.lit b) := fun N y hy => VR_lit.2 (VR_v.1 hy)
/-! What comes in. -/
/-- The items lie in the world that was there. -/
structure In (W : World) (oa : Option Addr) (items : List It) : Prop where
  addr : items ≠ [] → ∃ a, oa = some a
  cell : ∀ a, oa = some a → ∀ (k : Nat) (hk : k < items.length), W.cell? ((a.add (k * 3)).add 0) = some (.int .i64 (items.getD k It.zero).a) ∧ W.cell? ((a.add (k * 3)).add 1) = some (.int .i64 (items.getD k It.zero).b) ∧ W.cell? ((a.add (k * 3)).add 2) = some (.int .i64 (items.getD k It.zero).c)
  big : items.length * 24 ≤ 140737488355328
def upTo (items : List It) (k : Nat) : List It := (items.take k).foldl putL []
theorem putL_len (L : List It) (x : It) : (putL L x).length = if hasSeq x.b L = true then L.length else L.length + 1 := by
  unfold putL
  cases hasSeq x.b L with
  | true => rfl
  | false => simp [(ins_perm x L).length_eq]
theorem upTo_succ (items : List It) (k : Nat) (hk : k < items.length) : upTo items (k + 1) = putL (upTo items k) (items.getD k It.zero) := by
  unfold upTo
  rw [List.take_succ_eq_append_getElem hk, List.foldl_append]
  simp [List.getD, List.getElem?_eq_getElem hk]
theorem upTo_len (items : List It) : ∀ k, k ≤ items.length → (upTo items k).length ≤ k
  | 0, _ => by simp [upTo]
  | k + 1, h => by
    rw [upTo_succ items k (by omega), putL_len]
    have := upTo_len items k (by omega)
    split <;> omega
theorem upTo_all (items : List It) : upTo items items.length = putAll items := by simp [upTo, putAll]
theorem upTo_sub (items : List It) : ∀ k, k ≤ items.length → ∀ x ∈ upTo items k, x ∈ items
  | 0, _, x, hx => by simp [upTo] at hx
  | k + 1, h, x, hx => by
    rw [upTo_succ items k (by omega)] at hx
    have ih := upTo_sub items k (by omega)
    have hm : items.getD k It.zero ∈ items := by
      rw [List.getD, List.getElem?_eq_getElem (by omega)]; exact List.getElem_mem _
    unfold putL at hx
    split at hx
    · exact ih x hx
    · rcases List.mem_cons.1 ((ins_perm _ _).subset hx) with rfl | hx
      · exact hm
      · exact ih x hx
theorem upTo_sorted (items : List It) : ∀ k, k ≤ items.length → Sortd (upTo items k)
  | 0, _ => by simp [upTo, Sortd]
  | k + 1, h => by
    rw [upTo_succ items k (by omega)]
    have ih := upTo_sorted items k (by omega)
    unfold putL
    cases hs : hasSeq (items.getD k It.zero).b (upTo items k) with
    | true => exact ih
    | false =>
      refine ins_sorted ih fun y hy e => ?_
      have := List.any_eq_false.1 hs y hy
      exact this (by simp [e])
theorem nat_lt (k n : Nat) : decide (Int.ofNat k < Int.ofNat n) = decide (k < n) := by
  simp only [Int.ofNat_eq_natCast, Int.ofNat_lt]
theorem wrap_succ (k : Nat) (h : k < 9223372036854775807) : IntKind.i64.wrap (Int.ofNat k + Int.ofNat 1) = Int.ofNat (k + 1) := by
  rw [IntWalk.i64_in _ (by simp only [Int.ofNat_eq_natCast]; omega)]; simp only [Int.ofNat_eq_natCast]; omega
theorem put_loop (W : World) (oa : Option Addr) (items : List It) (c : Nat) (hI : In W oa items) : LTri Try.prog W (loopN fDrains 8) (tms 0 84 (aPut (slV oa items.length c) items.length 0 0)) [(0, lO [])] (.exit 0) (tms 0 84 (zPut (slV oa items.length c) (putAll items).length)) [(0, lO (putAll items))] := by
  refine ltri_tms (σ := {k : Nat // k ≤ items.length}) (g := fDrains) (con := fun _ => conL conR) (claim := fun k => hPutL k.1 (upTo items k.1).length (items.getD k.1 It.zero)) (lcon := fun _ => lconL []) 84 (fun k => aPut (slV oa items.length c) items.length k.1 (upTo items k.1).length) (fun k => [(0, lO (upTo items k.1))]) (.exit 0) _ _ (fun k => items.length - k.1) [0] [0, 3, 4, 21, 22, 23] 1000 mixed (by intro h; cases h)
    (fun _ => rfl) rfl (fun p F _ => conL_ok rfl fun x hx => conR_ok x hx F) (fun p F _ => lconL_ok rfl fun x hx => by cases hx) ?_ ⟨0, Nat.zero_le _⟩
  rintro ⟨k, hk⟩ F _
  have hbig := hI.big
  cases oa with
  | none =>
    have h0 : items = [] := Classical.byContradiction fun h => by obtain ⟨a, ha⟩ := hI.addr h; cases ha
    subst h0
    have hk0 : k = 0 := by simpa using hk
    subst hk0
    show (wLoop conR (hPutL 0 0 It.zero) [] W fDrains (loopN fDrains 8) (tms 0 84 (aPut (slV none 0 c) 0 0 0)) [(0, lO [])] [0] [0, 3, 4, 21, 22, 23] F).all _
    rw [oLoopPut0_eq]
    exact ⟨(fun h => by cases h), fun _ => ⟨trivial, rfl, .inr ⟨rfl, [], rfl, rfl, ⟨Wk.refl _, Wk.refl _, Wk.refl _, trivial⟩, ⟨⟨_, rfl, OW.refl _⟩, trivial⟩⟩⟩⟩
  | some a =>
    show (wLoop conR (hPutL k (upTo items k).length (items.getD k It.zero)) [] W fDrains (loopN fDrains 8) (tms 0 84 (aPut (slV (some a) items.length c) items.length k (upTo items k).length)) [(0, lO (upTo items k))] [0] [0, 3, 4, 21, 22, 23] F).all _
    rw [oLoopPut_eq, nat_lt]
    have hl := upTo_len items k hk
    refine ⟨fun h1 => ?_, fun h1 => ?_⟩
    · simp only [decide_eq_true_eq] at h1
      obtain ⟨e0, e1, e2⟩ := hI.cell a rfl k h1
      have e1' : W.cell? (Addr.mk (a.add (k * 3)).block ((a.add (k * 3)).off + 1) none) = some (.int .i64 (items.getD k It.zero).b) := e1
      have e2' : W.cell? (Addr.mk (a.add (k * 3)).block ((a.add (k * 3)).off + 2) none) = some (.int .i64 (items.getD k It.zero).c) := e2
      have hs := upTo_succ items k h1
      have hpl := putL_len (upTo items k) (items.getD k It.zero)
      have hroom : RoomL (upTo items k) := by show (_ + 1) * 24 ≤ _; omega
      have hw1 := wrap_succ (upTo items k).length (by omega)
      have hw2 := wrap_succ k (by omega)
      have hn : ([0, 1, 2].all fun j => (W.cell? ((a.add (k * 3)).add j)).isSome) = true := by simp [List.all, e0, e1, e2]
      have next : ∀ (p : Nat), (upTo items (k + 1)).length = p → (84 : Nat) = 84 ∧ (((.normal : AX) = .normal ∧ ∃ s' : {k : Nat // k ≤ items.length}, items.length - s'.1 < items.length - k ∧ ∃ l, FitT [0] [0, 3, 4, 21, 22, 23] [slV (some a) items.length c, AV.ptr 0 0, iv (Int.ofNat p), slV (some a) items.length c, iv (Int.ofNat items.length), iv (Int.ofNat (k + 1))] [some (lO (putL (upTo items k) (items.getD k It.zero)))] (aPut (slV (some a) items.length c) items.length s'.1 (upTo items s'.1).length) [(0, lO (upTo items s'.1))] l) ∨
          ((.normal : AX) = .exit 0 ∧ ∃ l, FitT [0] [0, 3, 4, 21, 22, 23] [slV (some a) items.length c, AV.ptr 0 0, iv (Int.ofNat p), slV (some a) items.length c, iv (Int.ofNat items.length), iv (Int.ofNat (k + 1))] [some (lO (putL (upTo items k) (items.getD k It.zero)))] (zPut (slV (some a) items.length c) (putAll items).length) [(0, lO (putAll items))] l)) := by
        intro p hp
        refine ⟨rfl, .inl ⟨rfl, ⟨k + 1, h1⟩, by show items.length - (k + 1) < _; omega, [], rfl, rfl, ?_, ⟨⟨_, rfl, OW.of_eq (by rw [← hs]; rfl)⟩, trivial⟩⟩⟩
        rw [hp]
        exact ⟨Wk.refl _, Wk.refl _, Wk.refl _, Wk.refl _, Wk.refl _, Wk.refl _, trivial⟩
      refine ⟨fun h2 => ⟨?_, next _ ?_⟩, fun h2 => ⟨?_, next _ ?_⟩⟩
      · simp only [Cnd.holds, hn, e0, e1', e2', Option.getD_some, Nat.blt_eq]
        and_intros
        all_goals first | exact trivial | exact h1 | exact hroom | exact VW.refl _ | exact OW.refl _ | exact Wk.refl _ | exact wk_int hw1 | exact wk_int hw2 | rfl
      · rw [hs, hpl, if_neg (by simpa using h2)]
      · simp only [Cnd.holds, hn, e0, e1', e2', Option.getD_some, Nat.blt_eq]
        and_intros
        all_goals first | exact trivial | exact h1 | exact hroom | exact VW.refl _ | exact OW.refl _ | exact Wk.refl _ | exact wk_int hw1 | exact wk_int hw2 | rfl
      · rw [hs, hpl, if_pos (by simpa using h2)]
    · simp only [decide_eq_false_iff_not] at h1
      have hke : k = items.length := by omega
      subst hke
      have hall := upTo_all items
      refine ⟨trivial, rfl, .inr ⟨rfl, [], rfl, rfl, ?_, ⟨⟨_, rfl, OW.of_eq (by rw [← hall]; rfl)⟩, trivial⟩⟩⟩
      rw [← hall]
      exact ⟨Wk.refl _, Wk.refl _, Wk.refl _, trivial⟩
end Go.Proofs.Ytcpijmlaglcblaa.Rk

/- RanksDrains: the search, the draining, the whole. -/
set_option linter.unusedVariables false
set_option linter.unusedSimpArgs false
set_option maxRecDepth 100000
namespace Go.Proofs.Ytcpijmlaglcblaa.Rk
open Go Go.RowKit Go.Proofs.Ytcpijmlaglcblaa.Eng
theorem wk_unlit (b : Bool) : Wk (.lit b) (.v (.bool b)) := fun N y hy => VR_v.2 (VR_lit.1 hy)
theorem fnd_succ (items : List It) (it : It) (k : Nat) (hk : k < items.length) : fnd (items.take (k + 1)) it = (fnd (items.take k) it || sameIt (items.getD k It.zero) it) := by
  unfold fnd
  rw [List.take_succ_eq_append_getElem hk, List.any_append]
  simp [List.getD, List.getElem?_eq_getElem hk]
theorem find_loop (W : World) (oa : Option Addr) (items : List It) (c p i : Nat) (it last : It) (L : List It) (hI : In W oa items) : LTri Try.prog W (loopN fDrains 22) (tms 0 84 (aFind (slV oa items.length c) items.length 0 p i false)) [(0, lO L), (1, boxO last), (2, boxO it)] (.exit 4) (tms 0 84 (zFind (slV oa items.length c) p i (fnd items it))) [(0, lO L), (1, boxO last), (2, boxO it)] := by
  refine ltri_tms (σ := {k : Nat // k ≤ items.length}) (g := fDrains) (con := fun _ => conL conR) (claim := fun k => hFind k.1 (items.getD k.1 It.zero)) (lcon := fun _ => lconL []) 84 (fun k => aFind (slV oa items.length c) items.length k.1 p i (fnd (items.take k.1) it)) (fun k => [(0, lO L), (1, boxO last), (2, boxO it)]) (.exit 4) _ _ (fun k => items.length - k.1) [0, 1, 2] [0, 3, 4, 7, 8, 9, 11, 56, 57, 58] 1000 mixed (by intro h; cases h)
    (fun _ => rfl) rfl (fun p F _ => conL_ok rfl fun x hx => conR_ok x hx F) (fun p F _ => lconL_ok rfl fun x hx => by cases hx) ?_ ⟨0, Nat.zero_le _⟩
  rintro ⟨k, hk⟩ F _
  have hbig := hI.big
  cases oa with
  | none =>
    have h0 : items = [] := Classical.byContradiction fun h => by obtain ⟨a, ha⟩ := hI.addr h; cases ha
    subst h0
    have hk0 : k = 0 := by simpa using hk
    subst hk0
    show (wLoop conR (hFind 0 It.zero) [] W fDrains (loopN fDrains 22) (tms 0 84 (aFind (slV none 0 c) 0 0 p i false)) [(0, lO L), (1, boxO last), (2, boxO it)] [0, 1, 2] [0, 3, 4, 7, 8, 9, 11, 56, 57, 58] F).all _
    rw [oLoopFind0_eq]
    exact ⟨(fun h => by cases h), fun _ => ⟨trivial, rfl, .inr ⟨rfl, [], rfl, rfl, ⟨Wk.refl _, Wk.refl _, Wk.refl _, Wk.refl _, Wk.refl _, Wk.refl _, Wk.refl _, trivial⟩, ⟨⟨_, rfl, OW.refl _⟩, ⟨_, rfl, OW.refl _⟩, ⟨_, rfl, OW.refl _⟩, trivial⟩⟩⟩⟩
  | some a =>
    show (wLoop conR (hFind k (items.getD k It.zero)) [] W fDrains (loopN fDrains 22) (tms 0 84 (aFind (slV (some a) items.length c) items.length k p i (fnd (items.take k) it))) [(0, lO L), (1, boxO last), (2, boxO it)] [0, 1, 2] [0, 3, 4, 7, 8, 9, 11, 56, 57, 58] F).all _
    rw [oLoopFind_eq, nat_lt]
    refine ⟨fun h1 => ?_, fun h1 => ?_⟩
    · simp only [decide_eq_true_eq] at h1
      obtain ⟨e0, e1, e2⟩ := hI.cell a rfl k h1
      have e1' : W.cell? (Addr.mk (a.add (k * 3)).block ((a.add (k * 3)).off + 1) none) = some (.int .i64 (items.getD k It.zero).b) := e1
      have e2' : W.cell? (Addr.mk (a.add (k * 3)).block ((a.add (k * 3)).off + 2) none) = some (.int .i64 (items.getD k It.zero).c) := e2
      have hs := fnd_succ items it k h1
      have hw2 := wrap_succ k (by omega)
      have hn : ([0, 1, 2].all fun j => (W.cell? ((a.add (k * 3)).add j)).isSome) = true := by simp [List.all, e0, e1, e2]
      have heq := item_eq (items.getD k It.zero) it
      refine ⟨fun h2 => ⟨?_, rfl, .inl ⟨rfl, ⟨k + 1, h1⟩, by show items.length - (k + 1) < items.length - k; omega, [], rfl, rfl, ?_, ⟨⟨_, rfl, OW.refl _⟩, ⟨_, rfl, OW.refl _⟩, ⟨_, rfl, OW.refl _⟩, trivial⟩⟩⟩, fun h2 => ⟨?_, rfl, .inl ⟨rfl, ⟨k + 1, h1⟩, by show items.length - (k + 1) < items.length - k; omega, [], rfl, rfl, ?_, ⟨⟨_, rfl, OW.refl _⟩, ⟨_, rfl, OW.refl _⟩, ⟨_, rfl, OW.refl _⟩, trivial⟩⟩⟩⟩
      · simp only [Cnd.holds, hn, e0, e1', e2', Option.getD_some, Nat.blt_eq]
        and_intros
        all_goals first | exact trivial | exact h1 | exact VW.refl _ | exact OW.refl _ | exact Wk.refl _ | exact wk_int hw2 | rfl
      · have : fnd (items.take (k + 1)) it = true := by rw [hs, h2]; rfl
        simp only [this]
        exact ⟨Wk.refl _, Wk.refl _, Wk.refl _, Wk.refl _, Wk.refl _, Wk.refl _, wk_unlit true, Wk.refl _, Wk.refl _, Wk.refl _, trivial⟩
      · simp only [Cnd.holds, hn, e0, e1', e2', Option.getD_some, Nat.blt_eq]
        and_intros
        all_goals first | exact trivial | exact h1 | exact heq | exact VW.refl _ | exact OW.refl _ | exact Wk.refl _ | exact wk_int hw2 | rfl
      · have : fnd (items.take (k + 1)) it = sameIt (items.getD k It.zero) it := by rw [hs, h2]; rfl
        simp only [this]
        exact ⟨Wk.refl _, Wk.refl _, Wk.refl _, Wk.refl _, Wk.refl _, Wk.refl _, Wk.refl _, Wk.refl _, Wk.refl _, Wk.refl _, trivial⟩
    · simp only [decide_eq_false_iff_not] at h1
      have hke : k = items.length := by omega
      subst hke
      have hall : items.take items.length = items := List.take_length
      refine ⟨trivial, rfl, .inr ⟨rfl, [], rfl, rfl, ?_, ⟨⟨_, rfl, OW.refl _⟩, ⟨_, rfl, OW.refl _⟩, ⟨_, rfl, OW.refl _⟩, trivial⟩⟩⟩
      rw [hall]
      exact ⟨Wk.refl _, Wk.refl _, Wk.refl _, Wk.refl _, Wk.refl _, Wk.refl _, Wk.refl _, trivial⟩
theorem cls_told {K : Nat → Bool} {told : List (Nat × AV)} (h : ∀ x ∈ told, AV.cl K x.2) : AV.cls K (tms 0 84 told) := cls_tms h 84 0
theorem findLc_ok (W : World) (oa : Option Addr) (items : List It) (c p i : Nat) (L : List It) (last it : It) (hI : In W oa items) (F : HP) (hF : OldOK W F) : L1OK Try.prog F (loopN fDrains 22) (findLc (slV oa items.length c) items items.length p i L last it) := by
  intro st W0 N h w tmps tmps' ax a h' n n' lg lg' c' Q he hc r ha hf hK
  unfold findLc at he
  split at he
  · split at he
    · split at he
      · have hcl : ClosedC (tms 0 84 (aFind (slV oa items.length c) items.length 0 p i false)) [(0, lO L), (1, boxO last), (2, boxO it)] (tms 0 84 (zFind (slV oa items.length c) p i (fnd items it))) [(0, lO L), (1, boxO last), (2, boxO it)] := by
          refine ⟨rfl, rfl, cls_told ?_, ?_, cls_told ?_, ?_⟩
          · intro x hx
            simp only [aFind, List.mem_cons, List.not_mem_nil, or_false] at hx
            rcases hx with rfl | rfl | rfl | rfl | rfl | rfl | rfl | rfl | rfl | rfl <;> first | trivial | rfl
          · intro x hx
            simp only [List.mem_cons, List.not_mem_nil, or_false] at hx
            rcases hx with rfl | rfl | rfl <;> first | trivial | exact cls_vmap _ _
          · intro x hx
            simp only [zFind, List.mem_cons, List.not_mem_nil, or_false] at hx
            rcases hx with rfl | rfl | rfl | rfl | rfl | rfl | rfl <;> first | trivial | rfl
          · intro x hx
            simp only [RT.pick, List.mem_cons, List.not_mem_nil, or_false] at hx
            rcases hx with rfl | rfl | rfl <;> first | trivial | exact cls_vmap _ _
        exact useG_loop hF (find_loop W oa items c p i it last L hI) hcl he hc r ha hf hK
      · exact (inv_fail he).elim
    · exact (inv_fail he).elim
  · exact (inv_fail he).elim
/-- What the draining keeps. -/
structure OI (items : List It) (p : Nat) (lastF : It) (s : Nat × List It × It) : Prop where
  len : s.1 + s.2.1.length = p
  sorted : Sortd s.2.1
  behind : 0 < s.1 → ∀ x ∈ s.2.1, ahead s.2.2 x = true
  sub : ∀ x ∈ s.2.1, x ∈ items
  last : s.2.1.getLastD s.2.2 = lastF
theorem sameIt_self (x : It) : sameIt x x = true := by simp [sameIt, valsQ, valQ, enc]
theorem fnd_mem {items : List It} {x : It} (h : x ∈ items) : fnd items x = true := List.any_eq_true.2 ⟨x, h, sameIt_self x⟩
noncomputable section
def claimO : Nat × List It × It → ClaimT
  | (_, [], _) => hEnd
  | (i, x :: _, _) => hOut i x
def lconO (V : AV) (items : List It) (n p : Nat) : Nat × List It × It → List (FuncId × Nat × Code × (List AV → AP (AX × List AV)))
  | (_, [], _) => []
  | (i, x :: L, last) => [(fDrains, 22, loopN fDrains 22, findLc V items n p i L last x)]
end
theorem out_loop (W : World) (oa : Option Addr) (items : List It) (c : Nat) (LL : List It) (hI : In W oa items) (hlen : LL.length ≤ items.length) (hs : Sortd LL) (hsub : ∀ x ∈ LL, x ∈ items) : LTri Try.prog W (loopN fDrains 15) (tms 0 84 (aOut (slV oa items.length c) LL.length 0)) [(0, lO LL), (1, boxO It.zero)] (.exit 2) (tms 0 84 (aOut (slV oa items.length c) LL.length LL.length)) [(0, lO []), (1, boxO (LL.getLastD It.zero))] := by
  refine ltri_tms (σ := {s : Nat × List It × It // OI items LL.length (LL.getLastD It.zero) s}) (g := fDrains) (con := fun _ => conL conR) (claim := fun s => claimO s.1) (lcon := fun s => lconL (lconO (slV oa items.length c) items items.length LL.length s.1)) 84 (fun s => aOut (slV oa items.length c) LL.length s.1.1) (fun s => [(0, lO s.1.2.1), (1, boxO s.1.2.2)]) (.exit 2) _ _ (fun s => s.1.2.1.length) [0, 1] [0, 3, 4, 7, 8] 1000 mixed (by intro h; cases h)
    (fun _ => rfl) rfl (fun p F _ => conL_ok rfl fun x hx => conR_ok x hx F) (fun s F hF => lconL_ok rfl fun x hx => ?_) ?_ ⟨(0, LL, It.zero), by simp, hs, (fun h => by cases h), hsub, rfl⟩
  · obtain ⟨⟨i, L, last⟩, hs'⟩ := s
    cases L with
    | nil => cases hx
    | cons y L =>
      have hx : x ∈ [(fDrains, 22, loopN fDrains 22, findLc (slV oa items.length c) items items.length LL.length i L last y)] := hx
      simp only [List.mem_singleton] at hx
      subst hx
      exact findLc_ok W oa items c LL.length i L last y hI F hF
  · rintro ⟨⟨i, L, last⟩, h1, h2, h3, h4, h5⟩ F hF
    have hbig := hI.big
    cases L with
    | nil =>
      have hi : i = LL.length := by simpa using h1
      subst hi
      show (wLoop conR hEnd [] W fDrains (loopN fDrains 15) (tms 0 84 (aOut (slV oa items.length c) LL.length LL.length)) [(0, lO []), (1, boxO last)] [0, 1] [0, 3, 4, 7, 8] F).all _
      rw [oLoopEnd_eq, nat_lt]
      have e : decide (LL.length < LL.length) = false := by simp
      have h5' : last = LL.getLastD It.zero := h5
      rw [e]
      exact ⟨⟨⟨wk_lit false, trivial⟩, trivial⟩, rfl, .inr ⟨rfl, [], rfl, rfl, ⟨Wk.refl _, Wk.refl _, Wk.refl _, Wk.refl _, Wk.refl _, trivial⟩, ⟨⟨_, rfl, OW.refl _⟩, ⟨_, rfl, OW.of_eq (by rw [← h5']; rfl)⟩, trivial⟩⟩⟩
    | cons x L =>
      show (wLoop conR (hOut i x) [(fDrains, 22, loopN fDrains 22, findLc (slV oa items.length c) items items.length LL.length i L last x)] W fDrains (loopN fDrains 15) (tms 0 84 (aOut (slV oa items.length c) LL.length i)) [(0, lO (x :: L)), (1, boxO last)] [0, 1] [0, 3, 4, 7, 8] F).all _
      rw [oLoopOut_eq]
      have h1' : i + (L.length + 1) = LL.length := h1
      have hip : decide (Int.ofNat i < Int.ofNat LL.length) = true := by rw [nat_lt]; simp; omega
      have hi0 : decide (Int.ofNat i > Int.ofNat 0) = decide (0 < i) := by show decide (Int.ofNat 0 < Int.ofNat i) = _; rw [nat_lt]
      have hf := fnd_mem (h4 x List.mem_cons_self)
      have hw := wrap_succ i (by omega)
      obtain ⟨s1, s2⟩ := List.pairwise_cons.1 h2
      have hwt : ∀ (y : AV), Wk (.tuple [y, .v (.bool true)]) (.tuple [y, .lit true]) := by
        intro y N z hz
        simp only [VR, VRs] at hz ⊢
        exact hz
      have next : OI items LL.length (LL.getLastD It.zero) (i + 1, L, x) := ⟨by show i + 1 + L.length = _; omega, s2, fun _ => s1, fun y hy => h4 y (List.mem_cons_of_mem _ hy), by
        have h5' : (x :: L).getLastD last = LL.getLastD It.zero := h5
        show L.getLastD x = _
        rw [← h5', List.getLastD_cons]⟩
      have fin : ∀ (n : Nat), (84 : Nat) = 84 ∧ (((.normal : AX) = .normal ∧ ∃ s' : {s : Nat × List It × It // OI items LL.length (LL.getLastD It.zero) s}, s'.1.2.1.length < (x :: L).length ∧ ∃ l, FitT [0, 1] [0, 3, 4, 7, 8] [slV oa items.length c, AV.ptr 0 0, iv (Int.ofNat LL.length), AV.ptr 1 0, iv (Int.ofNat (i + 1))] [some (lO L), some (boxO x)] (aOut (slV oa items.length c) LL.length s'.1.1) [(0, lO s'.1.2.1), (1, boxO s'.1.2.2)] l) ∨
          ((.normal : AX) = .exit 2 ∧ ∃ l, FitT [0, 1] [0, 3, 4, 7, 8] [slV oa items.length c, AV.ptr 0 0, iv (Int.ofNat LL.length), AV.ptr 1 0, iv (Int.ofNat (i + 1))] [some (lO L), some (boxO x)] (aOut (slV oa items.length c) LL.length LL.length) [(0, lO []), (1, boxO (LL.getLastD It.zero))] l)) := by
        intro n
        exact ⟨rfl, .inl ⟨rfl, ⟨(i + 1, L, x), next⟩, by simp, [], rfl, rfl, ⟨Wk.refl _, Wk.refl _, Wk.refl _, Wk.refl _, Wk.refl _, trivial⟩, ⟨⟨_, rfl, OW.refl _⟩, ⟨_, rfl, OW.refl _⟩, trivial⟩⟩⟩
      rw [hi0]
      refine ⟨fun h6 => ⟨fun h7 => ?_, fun h7 => ⟨fun h8 => ?_, fun h8 => ⟨?_, fin 0⟩⟩⟩, fun h6 => ⟨fun h8 => ?_, fun h8 => ⟨?_, fin 0⟩⟩⟩
      · simp only [decide_eq_true_eq] at h6
        have := h3 h6 x List.mem_cons_self
        have h7' : (!ahead last x) = true := h7
        rw [this] at h7'; cases h7'
      · rw [hf] at h8; cases h8
      · simp only [Cnd.holds, hip]
        and_intros
        all_goals first | exact trivial | exact wk_lit _ | exact hwt _ | exact VW.refl _ | exact OW.refl _ | exact Wk.refl _ | exact wk_int hw | rfl | (repeat (first | exact VW.nil | refine VW.cons (Wk.refl _) ?_ | refine VW.cons (wk_unlit _) ?_ | refine VW.cons (Wk.any _) ?_))
      · rw [hf] at h8; cases h8
      · simp only [Cnd.holds, hip]
        and_intros
        all_goals first | exact trivial | exact wk_lit _ | exact hwt _ | exact VW.refl _ | exact OW.refl _ | exact Wk.refl _ | exact wk_int hw | rfl | (repeat (first | exact VW.nil | refine VW.cons (Wk.refl _) ?_ | refine VW.cons (wk_unlit _) ?_ | refine VW.cons (Wk.any _) ?_))
theorem putLc_ok (W : World) (oa : Option Addr) (items : List It) (c : Nat) (hI : In W oa items) (F : HP) (hF : OldOK W F) : L1OK Try.prog F (loopN fDrains 8) (putLc (slV oa items.length c) items items.length) := by
  intro st W0 N h w tmps tmps' ax a h' n n' lg lg' c' Q he hc r ha hf hK
  unfold putLc at he
  split at he
  · have hcl : ClosedC (tms 0 84 (aPut (slV oa items.length c) items.length 0 0)) [(0, lO [])] (tms 0 84 (zPut (slV oa items.length c) (putAll items).length)) [(0, lO (putAll items))] := by
      refine ⟨rfl, rfl, cls_told ?_, ?_, cls_told ?_, ?_⟩
      · intro x hx
        simp only [aPut, List.mem_cons, List.not_mem_nil, or_false] at hx
        rcases hx with rfl | rfl | rfl | rfl | rfl | rfl <;> first | trivial | rfl
      · intro x hx
        simp only [List.mem_cons, List.not_mem_nil, or_false] at hx
        subst hx; trivial
      · intro x hx
        simp only [zPut, List.mem_cons, List.not_mem_nil, or_false] at hx
        rcases hx with rfl | rfl | rfl <;> first | trivial | rfl
      · intro x hx
        simp only [RT.pick, List.mem_cons, List.not_mem_nil, or_false] at hx
        subst hx; trivial
    exact useG_loop hF (put_loop W oa items c hI) hcl he hc r ha hf hK
  · exact (inv_fail he).elim
theorem outLc_ok (W : World) (oa : Option Addr) (items : List It) (c : Nat) (LL : List It) (hI : In W oa items) (hlen : LL.length ≤ items.length) (hs : Sortd LL) (hsub : ∀ x ∈ LL, x ∈ items) (F : HP) (hF : OldOK W F) : L1OK Try.prog F (loopN fDrains 15) (outLc (slV oa items.length c) LL) := by
  intro st W0 N h w tmps tmps' ax a h' n n' lg lg' c' Q he hc r ha hf hK
  unfold outLc at he
  split at he
  · split at he
    · have hcl : ClosedC (tms 0 84 (aOut (slV oa items.length c) LL.length 0)) [(0, lO LL), (1, boxO It.zero)] (tms 0 84 (aOut (slV oa items.length c) LL.length LL.length)) [(0, lO []), (1, boxO (LL.getLastD It.zero))] := by
        refine ⟨rfl, rfl, cls_told ?_, ?_, cls_told ?_, ?_⟩
        · intro x hx
          simp only [aOut, List.mem_cons, List.not_mem_nil, or_false] at hx
          rcases hx with rfl | rfl | rfl | rfl | rfl <;> first | trivial | rfl
        · intro x hx
          simp only [List.mem_cons, List.not_mem_nil, or_false] at hx
          rcases hx with rfl | rfl <;> first | trivial | exact cls_vmap _ _
        · intro x hx
          simp only [aOut, List.mem_cons, List.not_mem_nil, or_false] at hx
          rcases hx with rfl | rfl | rfl | rfl | rfl <;> first | trivial | rfl
        · intro x hx
          simp only [RT.pick, List.mem_cons, List.not_mem_nil, or_false] at hx
          rcases hx with rfl | rfl <;> first | trivial | exact cls_vmap _ _
      exact useG_loop hF (out_loop W oa items c LL hI hlen hs hsub) hcl he hc r ha hf hK
    · exact (inv_fail he).elim
  · exact (inv_fail he).elim
theorem drains_tri (W : World) (oa : Option Addr) (items : List It) (c : Nat) (hI : In W oa items) : Tri Try.prog W fDrains [slV oa items.length c] [] (.v (.bool true)) [] := by
  have hle : (putAll items).length ≤ items.length := by rw [← upTo_all]; exact upTo_len items _ (Nat.le_refl _)
  have hsort : Sortd (putAll items) := by rw [← upTo_all]; exact upTo_sorted items _ (Nat.le_refl _)
  have hsub : ∀ x ∈ putAll items, x ∈ items := by rw [← upTo_all]; exact upTo_sub items _ (Nat.le_refl _)
  refine tri_of_run (con := conL conR) (claim := hD) (lcon := lconL (lcD (slV oa items.length c) items items.length)) [] 1000 mixed rfl (fun F _ => conL_ok rfl fun x hx => conR_ok x hx F) (fun F hF => lconL_ok rfl fun x hx => ?_) fun F _ => ?_
  · simp only [lcD, List.mem_cons, List.not_mem_nil, or_false] at hx
    rcases hx with rfl | rfl
    · exact putLc_ok W oa items c hI F hF
    · exact outLc_ok W oa items c (putAll items) hI hle hsort hsub F hF
  · show (wRun conR hD (lcD (slV oa items.length c) items items.length) W fDrains [slV oa items.length c] [] [] F).all _
    rw [oDrains_eq]
    have hwt : ∀ (y : AV), Wk (.tuple [y, .v (.bool false)]) (.tuple [y, .lit false]) := by
      intro y N z hz
      simp only [VR, VRs] at hz ⊢
      exact hz
    refine ⟨?_, (fit_mk (vs := [.v (.bool true)]) (vs' := [.v (.bool true)]) [] rfl rfl (VW.refl _) (show ObjsOK [] [] [] [] from trivial)).fits rfl⟩
    simp only [Cnd.holds]
    and_intros
    all_goals first | exact trivial | exact wk_lit _ | exact hwt _ | exact VW.refl _ | exact OW.refl _ | exact Wk.refl _ | rfl | (repeat (first | exact VW.nil | refine VW.cons (Wk.refl _) ?_ | refine VW.cons (wk_unlit _) ?_ | refine VW.cons (Wk.any _) ?_))
end Go.Proofs.Ytcpijmlaglcblaa.Rk

/- What a slice of items that comes in is. -/
set_option linter.unusedVariables false
set_option linter.unusedSimpArgs false
namespace Go.Proofs.Ytcpijmlaglcblaa
open Go.ChangeShapes Go.WideShapes Go.RowKit Go.Deep
namespace Rk
open Go.Proofs.Ytcpijmlaglcblaa.Eng
section
variable {H : Type} {encD : TypeId × Value → H} {w : World} {base : Nat} {spare : Nat → Bool} {held : Bool}
theorem cells_item {fuel : Nat} {cs : List Value} {x : DataW H × List MemPlace} (h : DataW.trod encD Try.prog w base spare held fuel 27 cs = some x) : ∃ p : It, cs = enc p ∧ True := by
  obtain ⟨ys, n, _, rfl, hlen, hyl, hf⟩ := DataW.trod_struct Try.underlying27 h
  have zI : Try.prog.cellsOf 3 = 1 := by kernel_rfl
  match cs, hlen.trans (by kernel_rfl : Try.prog.cellsOf 27 = 3) with
  | [c0, c1, c2], _ =>
    match ys, hyl with
    | [y0, y1, y2], _ =>
      obtain ⟨a0, e0, x0, b0⟩ := DataW.trod_int Try.underlying3 (by simpa [zI] using hf 0 _ rfl : DataW.trod encD Try.prog w base spare held n 3 [c0] = some y0)
      obtain rfl := (List.cons.inj e0).1
      obtain ⟨a1, e1, x1, b1⟩ := DataW.trod_int Try.underlying3 (by simpa [zI] using hf 1 _ rfl : DataW.trod encD Try.prog w base spare held n 3 [c1] = some y1)
      obtain rfl := (List.cons.inj e1).1
      obtain ⟨a2, e2, x2, b2⟩ := DataW.trod_int Try.underlying3 (by simpa [zI] using hf 2 _ rfl : DataW.trod encD Try.prog w base spare held n 3 [c2] = some y2)
      obtain rfl := (List.cons.inj e2).1
      exact ⟨⟨a0, a1, a2⟩, rfl, trivial⟩
end
theorem in_of_rd {W : World} {A : Option Addr} {items : List It} (h : Rd W A items.length 3 (items.flatMap enc)) (hb : items.length * 24 ≤ 140737488355328) : In W A items := by
  refine ⟨fun hne => h.here (by cases items with | nil => exact absurd rfl hne | cons x l => simp), fun a ha k hk => ?_, hb⟩
  have hc : ∀ j (v : Value), j < 3 → (enc (items.getD k It.zero))[j]? = some v → W.cell? ((a.add (k * 3)).add j) = some v := by
    intro j v hj hv
    rw [add_add']
    refine h.cells a ha _ _ ?_
    rw [pieces_get enc_length items k j hk hj, ← hv]
    congr 2
    simp [List.getD, List.getElem?_eq_getElem hk]
  exact ⟨hc 0 _ (by decide) rfl, hc 1 _ (by decide) rfl, hc 2 _ (by decide) rfl⟩
/-- The law at a world. -/
theorem drains_calls (W : World) (A : Option Addr) (cap : Nat) (items : List It) (h : Rd W A items.length 3 (items.flatMap enc)) (hb : items.length * 24 ≤ 140737488355328) :
    Calls Try.prog fDrains #[.slice A items.length cap] W fun e w' => e = .returned (.bool true) ∧ Below W.heap.size W w' := by
  have hF : OldOK W (HP.old W) := by
    intro D w' hF a v hv
    have hF' : (HP.old W).on D w' := hF
    have hlt : a.block < W.heap.size := by
      simp only [World.cell?] at hv
      cases hg : W.heap[a.block]? with
      | none => rw [hg] at hv; cases hv
      | some o => exact (Array.getElem?_eq_some_iff.1 hg).1
    simp only [World.cell?, hF'.2 _ hlt] at hv ⊢
    exact hv
  refine (drains_tri W A items cap (in_of_rd h hb) W (HP.old W) (fun _ => none) W #[.slice A items.length cap] hF (fun _ _ _ => rfl) (rep_nil W) (VRs_cons.2 ⟨VR_v.2 rfl, VRs_nil⟩)).mono ?_
  rintro e w' ⟨y, rfl, N', _, _, r, hv⟩
  have hy : y = .bool true := VR_v.1 (VRs_cons.1 hv).1
  subst hy
  exact ⟨rfl, r.old_below⟩
end Rk
end Go.Proofs.Ytcpijmlaglcblaa

/- ref.Put: runs. -/
set_option linter.unusedVariables false
set_option linter.unusedSimpArgs false
set_option maxRecDepth 100000
namespace Go.Proofs.Ytcpijmlaglcblaa.Rk
open Go Go.RowKit Go.Proofs.Ytcpijmlaglcblaa.Eng
noncomputable section
abbrev fRPut : Nat := 15
/-- A list as it lies: behind other items. -/
def lsl (i : Nat) (g L : List It) : AV := .slice i (g.length * 3) L.length 3 (.lo L.length)
def lob (g L : List It) : AO := .cells (rowV enc (g ++ L)) tIt
def conB : List (FuncId × (List AV → Option (AP AV))) := [(fBefore, cBefore)]
def aRPut (g L out : List It) (done : Bool) (i : Nat) : List (Nat × AV) := [(0, lsl 0 g L), (3, .ptr 2 0), (6, .slice 1001 0 out.length 3 (.lo out.length)), (7, .v (.bool done)), (8, iv (Int.ofNat i))]
def zRPut (g L out : List It) (done : Bool) : List (Nat × AV) := [(0, lsl 0 g L), (3, .ptr 2 0), (6, .slice 1001 0 out.length 3 (.lo out.length)), (7, .v (.bool done))]
def zRPutD (g L : List It) : List (Nat × AV) := [(4, lsl 0 g L), (5, .v (.bool false))]
def oRPut (g L out : List It) (x : It) : LH := [(0, lob g L), (1001, .cells (rowV enc out) tIt), (2, boxO x)]
def hRPut (i : Nat) (y x : It) (b : Bool) : ClaimT := hintL [(fRPut, 6, 4, hv (iv y.b)), (fRPut, 6, 6, hv (iv x.b)), (fRPut, 6, 7, hv (.lit b)), (fRPut, 8, 3, hv (itA x)), (fRPut, 8, 7, hv (itA y)), (fRPut, 9, 1, hv (itA x)), (fRPut, 11, 4, hv (itA y)), (fRPut, 5, 1, hv (iv (Int.ofNat (i + 1))))]
theorem oLoopRPut_eq (g L out : List It) (x y : It) (done : Bool) (i : Nat) (F : HP) : wLoop conB (hRPut i y x false) [] default fRPut (loopN fRPut 4) (tms 0 53 (aRPut g L out done i)) (oRPut g L out x) [0, 2, 1001, 1100, 1101, 1102, 1103, 1104] [0, 3, 4, 5, 6, 7, 8] F = VT.ite (decide (Int.ofNat i < ↑L.length)) (VT.ite (!done) (VT.ite (ahead (It.mk x.a x.b x.c) (It.mk y.a y.b y.c)) (VT.leaf (AX.normal, [AV.slice 0 (g.length * 3) L.length 3 (Cp.lo L.length), AV.ptr 2 0, AV.any, AV.any, AV.slice 1103 0 (out.length + 1 + 1) 3 (Cp.lo (out.length + 1 + 1)), AV.v (Value.bool true), AV.v (Value.int IntKind.i64 (Int.ofNat (i + 1)))], 53) [some (AO.cells (rowV enc (g ++ L)) 54), some (AO.cells [AV.v (Value.int IntKind.i64 x.a), AV.v (Value.int IntKind.i64 x.b), AV.v (Value.int IntKind.i64 x.c)] 54), none, some (AO.cells [AV.v (Value.int IntKind.i64 x.a), AV.v (Value.int IntKind.i64 x.b), AV.v (Value.int IntKind.i64 x.c)] 54), none, some (AO.cells [AV.v (Value.int IntKind.i64 y.a), AV.v (Value.int IntKind.i64 y.b), AV.v (Value.int IntKind.i64 y.c)] 54), some (AO.cells (List.take ((out.length + 1) * 3) (List.drop 0 (List.take (out.length * 3) (List.drop 0 (rowV enc out)) ++ [AV.v (Value.int IntKind.i64 x.a), AV.v (Value.int IntKind.i64 x.b), AV.v (Value.int IntKind.i64 x.c)])) ++ [AV.v (Value.int IntKind.i64 y.a), AV.v (Value.int IntKind.i64 y.b), AV.v (Value.int IntKind.i64 y.c)]) 54), none] 1104 (((Cnd.p (i.blt L.length = true)).a Cnd.t).a (((Cnd.p ((g.length * 3 + i * 3 + 1).blt (rowV enc (g ++ L)).length = true)).a ((Cnd.p ((rowV enc (g ++ L)).getD (g.length * 3 + i * 3 + 1) (AV.v (Value.tuple (Array.mk []))) = AV.v (Value.int IntKind.i64 ((rowV enc (g ++ L)).getD (g.length * 3 + i * 3 + 1) (AV.v (Value.tuple (Array.mk [])))).intOf))).a ((Cnd.p (Wk (AV.v (Value.int IntKind.i64 ((rowV enc (g ++ L)).getD (g.length * 3 + i * 3 + 1) (AV.v (Value.tuple (Array.mk [])))).intOf)) (AV.v (Value.int IntKind.i64 y.b)))).a Cnd.t))).a (((Cnd.p (true = true)).a ((Cnd.p (AV.v (Value.int IntKind.i64 x.b) = AV.v (Value.int IntKind.i64 x.b))).a ((Cnd.p (Wk (AV.v (Value.int IntKind.i64 x.b)) (AV.v (Value.int IntKind.i64 x.b)))).a Cnd.t))).a (((Cnd.p (Wk (AV.v (Value.bool (y.b == x.b))) (AV.lit false))).a Cnd.t).a (((Cnd.p (true = true)).a ((Cnd.p ([AV.v (Value.int IntKind.i64 x.a), AV.v (Value.int IntKind.i64 x.b), AV.v (Value.int IntKind.i64 x.c)] = [AV.v (Value.int IntKind.i64 x.a), AV.v (Value.int IntKind.i64 x.b), AV.v (Value.int IntKind.i64 x.c)])).a ((Cnd.p (Wk (AV.agg [AV.v (Value.int IntKind.i64 x.a), AV.v (Value.int IntKind.i64 x.b), AV.v (Value.int IntKind.i64 x.c)]) (AV.agg [AV.v (Value.int IntKind.i64 x.a), AV.v (Value.int IntKind.i64 x.b), AV.v (Value.int IntKind.i64 x.c)]))).a Cnd.t))).a (((Cnd.p (i.blt L.length = true)).a Cnd.t).a (((Cnd.p ((List.take 3 (List.drop (g.length * 3 + i * 3) (rowV enc (g ++ L)))).length.beq 3 = true)).a ((Cnd.p (List.take 3 (List.drop (g.length * 3 + i * 3) (rowV enc (g ++ L))) = [AV.v (Value.int IntKind.i64 ((List.take 3 (List.drop (g.length * 3 + i * 3) (rowV enc (g ++ L)))).getD 0 (AV.v (Value.tuple (Array.mk [])))).intOf), AV.v (Value.int IntKind.i64 ((List.take 3 (List.drop (g.length * 3 + i * 3) (rowV enc (g ++ L)))).getD 1 (AV.v (Value.tuple (Array.mk [])))).intOf), AV.v (Value.int IntKind.i64 ((List.take 3 (List.drop (g.length * 3 + i * 3) (rowV enc (g ++ L)))).getD 2 (AV.v (Value.tuple (Array.mk [])))).intOf)])).a ((Cnd.p (Wk (AV.agg [AV.v (Value.int IntKind.i64 ((List.take 3 (List.drop (g.length * 3 + i * 3) (rowV enc (g ++ L)))).getD 0 (AV.v (Value.tuple (Array.mk [])))).intOf), AV.v (Value.int IntKind.i64 ((List.take 3 (List.drop (g.length * 3 + i * 3) (rowV enc (g ++ L)))).getD 1 (AV.v (Value.tuple (Array.mk [])))).intOf), AV.v (Value.int IntKind.i64 ((List.take 3 (List.drop (g.length * 3 + i * 3) (rowV enc (g ++ L)))).getD 2 (AV.v (Value.tuple (Array.mk [])))).intOf)]) (AV.agg [AV.v (Value.int IntKind.i64 y.a), AV.v (Value.int IntKind.i64 y.b), AV.v (Value.int IntKind.i64 y.c)]))).a Cnd.t))).a (((Cnd.p (VW [AV.agg [AV.v (Value.int IntKind.i64 x.a), AV.v (Value.int IntKind.i64 x.b), AV.v (Value.int IntKind.i64 x.c)], AV.agg [AV.v (Value.int IntKind.i64 y.a), AV.v (Value.int IntKind.i64 y.b), AV.v (Value.int IntKind.i64 y.c)]] [AV.agg [AV.v (Value.int IntKind.i64 x.a), AV.v (Value.int IntKind.i64 x.b), AV.v (Value.int IntKind.i64 x.c)], AV.agg [AV.v (Value.int IntKind.i64 y.a), AV.v (Value.int IntKind.i64 y.b), AV.v (Value.int IntKind.i64 y.c)]])).a Cnd.t).a (((Cnd.p (true = true)).a ((Cnd.p ([AV.v (Value.int IntKind.i64 x.a), AV.v (Value.int IntKind.i64 x.b), AV.v (Value.int IntKind.i64 x.c)] = [AV.v (Value.int IntKind.i64 x.a), AV.v (Value.int IntKind.i64 x.b), AV.v (Value.int IntKind.i64 x.c)])).a ((Cnd.p (Wk (AV.agg [AV.v (Value.int IntKind.i64 x.a), AV.v (Value.int IntKind.i64 x.b), AV.v (Value.int IntKind.i64 x.c)]) (AV.agg [AV.v (Value.int IntKind.i64 x.a), AV.v (Value.int IntKind.i64 x.b), AV.v (Value.int IntKind.i64 x.c)]))).a Cnd.t))).a (((Cnd.p (true = true)).a ((Cnd.p (true = true)).a ((Cnd.p (true = true)).a ((Cnd.p (true = true)).a ((Cnd.p ((0 + out.length * 3).ble (rowV enc out).length = true)).a ((Cnd.p (((out.length + 1) * 24).ble 140737488355328 = true)).a ((Cnd.p ((out.length + 1).ble 9223372036854775807 = true)).a ((Cnd.p ((List.take (out.length * 3) (List.drop 0 (rowV enc out))).length.beq (out.length * 3) = true)).a Cnd.t)))))))).a (((Cnd.p (i.blt L.length = true)).a Cnd.t).a (((Cnd.p ((List.take 3 (List.drop (g.length * 3 + i * 3) (rowV enc (g ++ L)))).length.beq 3 = true)).a ((Cnd.p (List.take 3 (List.drop (g.length * 3 + i * 3) (rowV enc (g ++ L))) = [AV.v (Value.int IntKind.i64 ((List.take 3 (List.drop (g.length * 3 + i * 3) (rowV enc (g ++ L)))).getD 0 (AV.v (Value.tuple (Array.mk [])))).intOf), AV.v (Value.int IntKind.i64 ((List.take 3 (List.drop (g.length * 3 + i * 3) (rowV enc (g ++ L)))).getD 1 (AV.v (Value.tuple (Array.mk [])))).intOf), AV.v (Value.int IntKind.i64 ((List.take 3 (List.drop (g.length * 3 + i * 3) (rowV enc (g ++ L)))).getD 2 (AV.v (Value.tuple (Array.mk [])))).intOf)])).a ((Cnd.p (Wk (AV.agg [AV.v (Value.int IntKind.i64 ((List.take 3 (List.drop (g.length * 3 + i * 3) (rowV enc (g ++ L)))).getD 0 (AV.v (Value.tuple (Array.mk [])))).intOf), AV.v (Value.int IntKind.i64 ((List.take 3 (List.drop (g.length * 3 + i * 3) (rowV enc (g ++ L)))).getD 1 (AV.v (Value.tuple (Array.mk [])))).intOf), AV.v (Value.int IntKind.i64 ((List.take 3 (List.drop (g.length * 3 + i * 3) (rowV enc (g ++ L)))).getD 2 (AV.v (Value.tuple (Array.mk [])))).intOf)]) (AV.agg [AV.v (Value.int IntKind.i64 y.a), AV.v (Value.int IntKind.i64 y.b), AV.v (Value.int IntKind.i64 y.c)]))).a Cnd.t))).a (((Cnd.p (true = true)).a ((Cnd.p (true = true)).a ((Cnd.p (true = true)).a ((Cnd.p (true = true)).a ((Cnd.p ((0 + (out.length + 1) * 3).ble (List.take (out.length * 3) (List.drop 0 (rowV enc out)) ++ [AV.v (Value.int IntKind.i64 x.a), AV.v (Value.int IntKind.i64 x.b), AV.v (Value.int IntKind.i64 x.c)]).length = true)).a ((Cnd.p (((out.length + 1 + 1) * 24).ble 140737488355328 = true)).a ((Cnd.p ((out.length + 1 + 1).ble 9223372036854775807 = true)).a ((Cnd.p ((List.take ((out.length + 1) * 3) (List.drop 0 (List.take (out.length * 3) (List.drop 0 (rowV enc out)) ++ [AV.v (Value.int IntKind.i64 x.a), AV.v (Value.int IntKind.i64 x.b), AV.v (Value.int IntKind.i64 x.c)]))).length.beq ((out.length + 1) * 3) = true)).a Cnd.t)))))))).a (((Cnd.p (Wk (AV.v (Value.int IntKind.i64 (IntKind.i64.wrap (Int.ofNat i + Int.ofNat 1)))) (AV.v (Value.int IntKind.i64 (Int.ofNat (i + 1)))))).a Cnd.t).a Cnd.t))))))))))))))) (VT.leaf (AX.normal, [AV.slice 0 (g.length * 3) L.length 3 (Cp.lo L.length), AV.ptr 2 0, AV.any, AV.any, AV.slice 1101 0 (out.length + 1) 3 (Cp.lo (out.length + 1)), AV.v (Value.bool done), AV.v (Value.int IntKind.i64 (Int.ofNat (i + 1)))], 53) [some (AO.cells (rowV enc (g ++ L)) 54), some (AO.cells [AV.v (Value.int IntKind.i64 x.a), AV.v (Value.int IntKind.i64 x.b), AV.v (Value.int IntKind.i64 x.c)] 54), none, some (AO.cells [AV.v (Value.int IntKind.i64 y.a), AV.v (Value.int IntKind.i64 y.b), AV.v (Value.int IntKind.i64 y.c)] 54), some (AO.cells (List.take (out.length * 3) (List.drop 0 (rowV enc out)) ++ [AV.v (Value.int IntKind.i64 y.a), AV.v (Value.int IntKind.i64 y.b), AV.v (Value.int IntKind.i64 y.c)]) 54), none, none, none] 1102 (((Cnd.p (i.blt L.length = true)).a Cnd.t).a (((Cnd.p ((g.length * 3 + i * 3 + 1).blt (rowV enc (g ++ L)).length = true)).a ((Cnd.p ((rowV enc (g ++ L)).getD (g.length * 3 + i * 3 + 1) (AV.v (Value.tuple (Array.mk []))) = AV.v (Value.int IntKind.i64 ((rowV enc (g ++ L)).getD (g.length * 3 + i * 3 + 1) (AV.v (Value.tuple (Array.mk [])))).intOf))).a ((Cnd.p (Wk (AV.v (Value.int IntKind.i64 ((rowV enc (g ++ L)).getD (g.length * 3 + i * 3 + 1) (AV.v (Value.tuple (Array.mk [])))).intOf)) (AV.v (Value.int IntKind.i64 y.b)))).a Cnd.t))).a (((Cnd.p (true = true)).a ((Cnd.p (AV.v (Value.int IntKind.i64 x.b) = AV.v (Value.int IntKind.i64 x.b))).a ((Cnd.p (Wk (AV.v (Value.int IntKind.i64 x.b)) (AV.v (Value.int IntKind.i64 x.b)))).a Cnd.t))).a (((Cnd.p (Wk (AV.v (Value.bool (y.b == x.b))) (AV.lit false))).a Cnd.t).a (((Cnd.p (true = true)).a ((Cnd.p ([AV.v (Value.int IntKind.i64 x.a), AV.v (Value.int IntKind.i64 x.b), AV.v (Value.int IntKind.i64 x.c)] = [AV.v (Value.int IntKind.i64 x.a), AV.v (Value.int IntKind.i64 x.b), AV.v (Value.int IntKind.i64 x.c)])).a ((Cnd.p (Wk (AV.agg [AV.v (Value.int IntKind.i64 x.a), AV.v (Value.int IntKind.i64 x.b), AV.v (Value.int IntKind.i64 x.c)]) (AV.agg [AV.v (Value.int IntKind.i64 x.a), AV.v (Value.int IntKind.i64 x.b), AV.v (Value.int IntKind.i64 x.c)]))).a Cnd.t))).a (((Cnd.p (i.blt L.length = true)).a Cnd.t).a (((Cnd.p ((List.take 3 (List.drop (g.length * 3 + i * 3) (rowV enc (g ++ L)))).length.beq 3 = true)).a ((Cnd.p (List.take 3 (List.drop (g.length * 3 + i * 3) (rowV enc (g ++ L))) = [AV.v (Value.int IntKind.i64 ((List.take 3 (List.drop (g.length * 3 + i * 3) (rowV enc (g ++ L)))).getD 0 (AV.v (Value.tuple (Array.mk [])))).intOf), AV.v (Value.int IntKind.i64 ((List.take 3 (List.drop (g.length * 3 + i * 3) (rowV enc (g ++ L)))).getD 1 (AV.v (Value.tuple (Array.mk [])))).intOf), AV.v (Value.int IntKind.i64 ((List.take 3 (List.drop (g.length * 3 + i * 3) (rowV enc (g ++ L)))).getD 2 (AV.v (Value.tuple (Array.mk [])))).intOf)])).a ((Cnd.p (Wk (AV.agg [AV.v (Value.int IntKind.i64 ((List.take 3 (List.drop (g.length * 3 + i * 3) (rowV enc (g ++ L)))).getD 0 (AV.v (Value.tuple (Array.mk [])))).intOf), AV.v (Value.int IntKind.i64 ((List.take 3 (List.drop (g.length * 3 + i * 3) (rowV enc (g ++ L)))).getD 1 (AV.v (Value.tuple (Array.mk [])))).intOf), AV.v (Value.int IntKind.i64 ((List.take 3 (List.drop (g.length * 3 + i * 3) (rowV enc (g ++ L)))).getD 2 (AV.v (Value.tuple (Array.mk [])))).intOf)]) (AV.agg [AV.v (Value.int IntKind.i64 y.a), AV.v (Value.int IntKind.i64 y.b), AV.v (Value.int IntKind.i64 y.c)]))).a Cnd.t))).a (((Cnd.p (VW [AV.agg [AV.v (Value.int IntKind.i64 x.a), AV.v (Value.int IntKind.i64 x.b), AV.v (Value.int IntKind.i64 x.c)], AV.agg [AV.v (Value.int IntKind.i64 y.a), AV.v (Value.int IntKind.i64 y.b), AV.v (Value.int IntKind.i64 y.c)]] [AV.agg [AV.v (Value.int IntKind.i64 x.a), AV.v (Value.int IntKind.i64 x.b), AV.v (Value.int IntKind.i64 x.c)], AV.agg [AV.v (Value.int IntKind.i64 y.a), AV.v (Value.int IntKind.i64 y.b), AV.v (Value.int IntKind.i64 y.c)]])).a Cnd.t).a (((Cnd.p (i.blt L.length = true)).a Cnd.t).a (((Cnd.p ((List.take 3 (List.drop (g.length * 3 + i * 3) (rowV enc (g ++ L)))).length.beq 3 = true)).a ((Cnd.p (List.take 3 (List.drop (g.length * 3 + i * 3) (rowV enc (g ++ L))) = [AV.v (Value.int IntKind.i64 ((List.take 3 (List.drop (g.length * 3 + i * 3) (rowV enc (g ++ L)))).getD 0 (AV.v (Value.tuple (Array.mk [])))).intOf), AV.v (Value.int IntKind.i64 ((List.take 3 (List.drop (g.length * 3 + i * 3) (rowV enc (g ++ L)))).getD 1 (AV.v (Value.tuple (Array.mk [])))).intOf), AV.v (Value.int IntKind.i64 ((List.take 3 (List.drop (g.length * 3 + i * 3) (rowV enc (g ++ L)))).getD 2 (AV.v (Value.tuple (Array.mk [])))).intOf)])).a ((Cnd.p (Wk (AV.agg [AV.v (Value.int IntKind.i64 ((List.take 3 (List.drop (g.length * 3 + i * 3) (rowV enc (g ++ L)))).getD 0 (AV.v (Value.tuple (Array.mk [])))).intOf), AV.v (Value.int IntKind.i64 ((List.take 3 (List.drop (g.length * 3 + i * 3) (rowV enc (g ++ L)))).getD 1 (AV.v (Value.tuple (Array.mk [])))).intOf), AV.v (Value.int IntKind.i64 ((List.take 3 (List.drop (g.length * 3 + i * 3) (rowV enc (g ++ L)))).getD 2 (AV.v (Value.tuple (Array.mk [])))).intOf)]) (AV.agg [AV.v (Value.int IntKind.i64 y.a), AV.v (Value.int IntKind.i64 y.b), AV.v (Value.int IntKind.i64 y.c)]))).a Cnd.t))).a (((Cnd.p (true = true)).a ((Cnd.p (true = true)).a ((Cnd.p (true = true)).a ((Cnd.p (true = true)).a ((Cnd.p ((0 + out.length * 3).ble (rowV enc out).length = true)).a ((Cnd.p (((out.length + 1) * 24).ble 140737488355328 = true)).a ((Cnd.p ((out.length + 1).ble 9223372036854775807 = true)).a ((Cnd.p ((List.take (out.length * 3) (List.drop 0 (rowV enc out))).length.beq (out.length * 3) = true)).a Cnd.t)))))))).a (((Cnd.p (Wk (AV.v (Value.int IntKind.i64 (IntKind.i64.wrap (Int.ofNat i + Int.ofNat 1)))) (AV.v (Value.int IntKind.i64 (Int.ofNat (i + 1)))))).a Cnd.t).a Cnd.t)))))))))))))) (VT.leaf (AX.normal, [AV.slice 0 (g.length * 3) L.length 3 (Cp.lo L.length), AV.ptr 2 0, AV.any, AV.any, AV.slice 1101 0 (out.length + 1) 3 (Cp.lo (out.length + 1)), AV.v (Value.bool done), AV.v (Value.int IntKind.i64 (Int.ofNat (i + 1)))], 53) [some (AO.cells (rowV enc (g ++ L)) 54), some (AO.cells [AV.v (Value.int IntKind.i64 x.a), AV.v (Value.int IntKind.i64 x.b), AV.v (Value.int IntKind.i64 x.c)] 54), none, some (AO.cells [AV.v (Value.int IntKind.i64 y.a), AV.v (Value.int IntKind.i64 y.b), AV.v (Value.int IntKind.i64 y.c)] 54), some (AO.cells (List.take (out.length * 3) (List.drop 0 (rowV enc out)) ++ [AV.v (Value.int IntKind.i64 y.a), AV.v (Value.int IntKind.i64 y.b), AV.v (Value.int IntKind.i64 y.c)]) 54), none, none, none] 1102 (((Cnd.p (i.blt L.length = true)).a Cnd.t).a (((Cnd.p ((g.length * 3 + i * 3 + 1).blt (rowV enc (g ++ L)).length = true)).a ((Cnd.p ((rowV enc (g ++ L)).getD (g.length * 3 + i * 3 + 1) (AV.v (Value.tuple (Array.mk []))) = AV.v (Value.int IntKind.i64 ((rowV enc (g ++ L)).getD (g.length * 3 + i * 3 + 1) (AV.v (Value.tuple (Array.mk [])))).intOf))).a ((Cnd.p (Wk (AV.v (Value.int IntKind.i64 ((rowV enc (g ++ L)).getD (g.length * 3 + i * 3 + 1) (AV.v (Value.tuple (Array.mk [])))).intOf)) (AV.v (Value.int IntKind.i64 y.b)))).a Cnd.t))).a (((Cnd.p (true = true)).a ((Cnd.p (AV.v (Value.int IntKind.i64 x.b) = AV.v (Value.int IntKind.i64 x.b))).a ((Cnd.p (Wk (AV.v (Value.int IntKind.i64 x.b)) (AV.v (Value.int IntKind.i64 x.b)))).a Cnd.t))).a (((Cnd.p (Wk (AV.v (Value.bool (y.b == x.b))) (AV.lit false))).a Cnd.t).a (((Cnd.p (i.blt L.length = true)).a Cnd.t).a (((Cnd.p ((List.take 3 (List.drop (g.length * 3 + i * 3) (rowV enc (g ++ L)))).length.beq 3 = true)).a ((Cnd.p (List.take 3 (List.drop (g.length * 3 + i * 3) (rowV enc (g ++ L))) = [AV.v (Value.int IntKind.i64 ((List.take 3 (List.drop (g.length * 3 + i * 3) (rowV enc (g ++ L)))).getD 0 (AV.v (Value.tuple (Array.mk [])))).intOf), AV.v (Value.int IntKind.i64 ((List.take 3 (List.drop (g.length * 3 + i * 3) (rowV enc (g ++ L)))).getD 1 (AV.v (Value.tuple (Array.mk [])))).intOf), AV.v (Value.int IntKind.i64 ((List.take 3 (List.drop (g.length * 3 + i * 3) (rowV enc (g ++ L)))).getD 2 (AV.v (Value.tuple (Array.mk [])))).intOf)])).a ((Cnd.p (Wk (AV.agg [AV.v (Value.int IntKind.i64 ((List.take 3 (List.drop (g.length * 3 + i * 3) (rowV enc (g ++ L)))).getD 0 (AV.v (Value.tuple (Array.mk [])))).intOf), AV.v (Value.int IntKind.i64 ((List.take 3 (List.drop (g.length * 3 + i * 3) (rowV enc (g ++ L)))).getD 1 (AV.v (Value.tuple (Array.mk [])))).intOf), AV.v (Value.int IntKind.i64 ((List.take 3 (List.drop (g.length * 3 + i * 3) (rowV enc (g ++ L)))).getD 2 (AV.v (Value.tuple (Array.mk [])))).intOf)]) (AV.agg [AV.v (Value.int IntKind.i64 y.a), AV.v (Value.int IntKind.i64 y.b), AV.v (Value.int IntKind.i64 y.c)]))).a Cnd.t))).a (((Cnd.p (true = true)).a ((Cnd.p (true = true)).a ((Cnd.p (true = true)).a ((Cnd.p (true = true)).a ((Cnd.p ((0 + out.length * 3).ble (rowV enc out).length = true)).a ((Cnd.p (((out.length + 1) * 24).ble 140737488355328 = true)).a ((Cnd.p ((out.length + 1).ble 9223372036854775807 = true)).a ((Cnd.p ((List.take (out.length * 3) (List.drop 0 (rowV enc out))).length.beq (out.length * 3) = true)).a Cnd.t)))))))).a (((Cnd.p (Wk (AV.v (Value.int IntKind.i64 (IntKind.i64.wrap (Int.ofNat i + Int.ofNat 1)))) (AV.v (Value.int IntKind.i64 (Int.ofNat (i + 1)))))).a Cnd.t).a Cnd.t)))))))))) (VT.leaf (AX.exit 0, [AV.slice 0 (g.length * 3) L.length 3 (Cp.lo L.length), AV.ptr 2 0, AV.any, AV.any, AV.slice 1001 0 out.length 3 (Cp.lo out.length), AV.v (Value.bool done), AV.v (Value.int IntKind.i64 (Int.ofNat i))], 53) [some (AO.cells (rowV enc (g ++ L)) 54), some (AO.cells [AV.v (Value.int IntKind.i64 x.a), AV.v (Value.int IntKind.i64 x.b), AV.v (Value.int IntKind.i64 x.c)] 54), some (AO.cells (rowV enc out) 54), none, none, none, none, none] 1100 Cnd.t) := by kernel_rfl
theorem oLoopRPutD_eq (g L out : List It) (x y : It) (done : Bool) (i : Nat) (F : HP) : wLoop conB (hRPut i y x true) [] default fRPut (loopN fRPut 4) (tms 0 53 (aRPut g L out done i)) (oRPut g L out x) [0, 2, 1001, 1100, 1101, 1102, 1103, 1104] [0, 3, 4, 5, 6, 7, 8] F = VT.ite (decide (Int.ofNat i < ↑L.length)) (VT.leaf (AX.ret, [AV.slice 0 (g.length * 3) L.length 3 (Cp.lo L.length), AV.ptr 2 0, AV.slice 0 (g.length * 3) L.length 3 (Cp.lo L.length), AV.v (Value.bool false), AV.slice 1001 0 out.length 3 (Cp.lo out.length), AV.v (Value.bool done), AV.v (Value.int IntKind.i64 (Int.ofNat i))], 53) [some (AO.cells (rowV enc (g ++ L)) 54), some (AO.cells [AV.v (Value.int IntKind.i64 x.a), AV.v (Value.int IntKind.i64 x.b), AV.v (Value.int IntKind.i64 x.c)] 54), some (AO.cells (rowV enc out) 54), none, none, none, none, none] 1100 (((Cnd.p (i.blt L.length = true)).a Cnd.t).a (((Cnd.p ((g.length * 3 + i * 3 + 1).blt (rowV enc (g ++ L)).length = true)).a ((Cnd.p ((rowV enc (g ++ L)).getD (g.length * 3 + i * 3 + 1) (AV.v (Value.tuple (Array.mk []))) = AV.v (Value.int IntKind.i64 ((rowV enc (g ++ L)).getD (g.length * 3 + i * 3 + 1) (AV.v (Value.tuple (Array.mk [])))).intOf))).a ((Cnd.p (Wk (AV.v (Value.int IntKind.i64 ((rowV enc (g ++ L)).getD (g.length * 3 + i * 3 + 1) (AV.v (Value.tuple (Array.mk [])))).intOf)) (AV.v (Value.int IntKind.i64 y.b)))).a Cnd.t))).a (((Cnd.p (true = true)).a ((Cnd.p (AV.v (Value.int IntKind.i64 x.b) = AV.v (Value.int IntKind.i64 x.b))).a ((Cnd.p (Wk (AV.v (Value.int IntKind.i64 x.b)) (AV.v (Value.int IntKind.i64 x.b)))).a Cnd.t))).a (((Cnd.p (Wk (AV.v (Value.bool (y.b == x.b))) (AV.lit true))).a Cnd.t).a Cnd.t))))) (VT.leaf (AX.exit 0, [AV.slice 0 (g.length * 3) L.length 3 (Cp.lo L.length), AV.ptr 2 0, AV.any, AV.any, AV.slice 1001 0 out.length 3 (Cp.lo out.length), AV.v (Value.bool done), AV.v (Value.int IntKind.i64 (Int.ofNat i))], 53) [some (AO.cells (rowV enc (g ++ L)) 54), some (AO.cells [AV.v (Value.int IntKind.i64 x.a), AV.v (Value.int IntKind.i64 x.b), AV.v (Value.int IntKind.i64 x.c)] 54), some (AO.cells (rowV enc out) 54), none, none, none, none, none] 1100 Cnd.t) := by kernel_rfl
end
end Go.Proofs.Ytcpijmlaglcblaa.Rk

/- ref.Put: the loop. -/
set_option linter.unusedVariables false
set_option linter.unusedSimpArgs false
set_option maxRecDepth 100000
namespace Go.Proofs.Ytcpijmlaglcblaa.Rk
open Go Go.RowKit Go.Proofs.Ytcpijmlaglcblaa.Eng
/-! A row behind others. -/
theorem rowO_at (g L : List It) (i : Nat) (hi : i < L.length) : List.take 3 (List.drop (g.length * 3 + i * 3) (rowV enc (g ++ L))) = vmap (enc (L.getD i It.zero)) := by
  rw [← Nat.add_mul, rowV_span enc_length _ It.zero _ (by rw [List.length_append]; omega)]
  simp [List.getD, List.getElem?_append_right]
theorem rowO_len (g L : List It) : (rowV enc (g ++ L)).length = (g.length + L.length) * 3 := by rw [rowV_length enc_length, List.length_append]
theorem rowO_get (g L : List It) (i j : Nat) (hi : i < L.length) (hj : j < 3) : (rowV enc (g ++ L)).getD (g.length * 3 + i * 3 + j) (AV.v (Value.tuple { toList := [] })) = (vmap (enc (L.getD i It.zero))).getD j (AV.v (Value.tuple { toList := [] })) := by
  have h3 : ((List.take 3 (List.drop (g.length * 3 + i * 3) (rowV enc (g ++ L)))))[j]? = (vmap (enc (L.getD i It.zero)))[j]? := by rw [rowO_at g L i hi]
  rw [List.getElem?_take_of_lt hj, List.getElem?_drop] at h3
  rw [List.getD, h3]
  rfl
theorem rowO_seq (g L : List It) (i : Nat) (hi : i < L.length) : (rowV enc (g ++ L)).getD (g.length * 3 + i * 3 + 1) (AV.v (Value.tuple { toList := [] })) = iv (L.getD i It.zero).b := rowO_get g L i 1 hi (by decide)
theorem row_add (P : List It) (y : It) : List.take (P.length * 3) (List.drop 0 (rowV enc P)) ++ vmap (enc y) = rowV enc (P ++ [y]) := by
  rw [List.drop_zero, rowV_take enc_length, List.take_length, ← rowV_one (enc := enc), ← rowV_append]
theorem row_addN (P : List It) (n : Nat) (hn : n = P.length) (y : It) : List.take (n * 3) (List.drop 0 (rowV enc P)) ++ vmap (enc y) = rowV enc (P ++ [y]) := by
  rw [hn]; exact row_add P y
theorem row_whole (P : List It) (n : Nat) (hn : n = P.length) : List.take (n * 3) (List.drop 0 (rowV enc P)) = rowV enc P := by
  rw [hn, List.drop_zero, rowV_take enc_length, List.take_length]
/-- The list so far. -/
def outP (x : It) (P : List It) : List It := if P.any (fun y => ahead x y) = true then ins x P else P
theorem ins_app {x : It} : ∀ {P : List It} (Q : List It), P.any (fun y => ahead x y) = true → ins x (P ++ Q) = ins x P ++ Q
  | [], Q, h => by cases h
  | y :: P, Q, h => by
    rw [List.cons_append, ins, ins]
    cases hy : ahead x y with
    | true => rfl
    | false =>
      simp only [List.any_cons, hy, Bool.false_or] at h
      simp only [Bool.false_eq_true, if_false, List.cons_append, ins_app Q h]
theorem ins_none {x : It} : ∀ {P : List It} (Q : List It), P.any (fun y => ahead x y) = false → ins x (P ++ Q) = P ++ ins x Q
  | [], Q, h => rfl
  | y :: P, Q, h => by
    simp only [List.any_cons, Bool.or_eq_false_iff] at h
    rw [List.cons_append, ins, h.1, ins_none Q h.2]
    rfl
theorem outP_len (x : It) (P : List It) : (outP x P).length = if P.any (fun y => ahead x y) = true then P.length + 1 else P.length := by
  unfold outP
  split
  · simp [(ins_perm x P).length_eq]
  · rfl
theorem outP_done {x y : It} {P : List It} (h : P.any (fun y => ahead x y) = true) : outP x (P ++ [y]) = outP x P ++ [y] := by
  unfold outP
  rw [List.any_append, h, Bool.true_or, if_pos rfl, if_pos rfl, ins_app _ h]
theorem outP_now {x y : It} {P : List It} (h : P.any (fun y => ahead x y) = false) (hy : ahead x y = true) : outP x (P ++ [y]) = P ++ [x] ++ [y] := by
  unfold outP
  rw [List.any_append, h, Bool.false_or, show [y].any (fun y => ahead x y) = true by simp [hy], if_pos rfl, ins_none _ h, ins, hy]
  simp
theorem outP_not {x y : It} {P : List It} (h : P.any (fun y => ahead x y) = false) (hy : ahead x y = false) : outP x (P ++ [y]) = P ++ [y] := by
  unfold outP
  rw [List.any_append, h, Bool.false_or, show [y].any (fun y => ahead x y) = false by simp [hy], if_neg (by simp)]
theorem outP_yet {x : It} {P : List It} (h : P.any (fun y => ahead x y) = false) : outP x P = P := by
  unfold outP
  rw [h, if_neg (by simp)]
theorem take_next (L : List It) (i : Nat) (hi : i < L.length) : L.take (i + 1) = L.take i ++ [L.getD i It.zero] := by
  rw [List.take_succ_eq_append_getElem hi]
  simp [List.getD, List.getElem?_eq_getElem hi]
abbrev stR (L : List It) : Type := {i : Nat // i ≤ L.length}
def doneR (x : It) (L : List It) (i : Nat) : Bool := (L.take i).any fun y => ahead x y
def outR (x : It) (L : List It) (i : Nat) : List It := outP x (L.take i)
theorem conB_ok : ∀ x ∈ conB, ∀ F, C1OK Try.prog F x.1 x.2 := one_ok cBefore_ok
theorem wk_litE {b b' : Bool} (h : b = b') : Wk (.v (.bool b)) (.lit b') := by subst h; exact wk_lit b
theorem nat_ltC (k n : Nat) : decide (Int.ofNat k < (n : Int)) = decide (k < n) := by simp only [Int.ofNat_eq_natCast, Int.ofNat_lt]
/-- There is room for two more. -/
def Room2 (L : List It) : Prop := (L.length + 2) * 24 ≤ 140737488355328
section
variable (g L : List It) (x : It)
theorem rput_round (hb0 : Room2 L) (i : Nat) (hi : i < L.length) (hne : (L.getD i It.zero).b ≠ x.b) (F : HP) :
    VAll (fun r os _ => r.2.2 = 53 ∧
      r.1 = .normal ∧ ∃ l, FitT [0, 2, 1001, 1100, 1101, 1102, 1103, 1104] [0, 3, 4, 5, 6, 7, 8] r.2.1 os (aRPut g L (outR x L (i + 1)) (doneR x L (i + 1)) (i + 1)) (oRPut g L (outR x L (i + 1)) x) l)
    (wLoop conB (hRPut i (L.getD i It.zero) x false) [] default fRPut (loopN fRPut 4) (tms 0 53 (aRPut g L (outR x L i) (doneR x L i) i)) (oRPut g L (outR x L i) x) [0, 2, 1001, 1100, 1101, 1102, 1103, 1104] [0, 3, 4, 5, 6, 7, 8] F) := by
  have hb : (L.length + 2) * 24 ≤ 140737488355328 := hb0
  rw [oLoopRPut_eq, nat_ltC]
  generalize hy : L.getD i It.zero = y at hne ⊢
  have hol : (outR x L i).length ≤ i + 1 := by
    unfold outR; rw [outP_len]; have : (L.take i).length = i := by simp; omega
    split <;> omega
  have htk : L.take (i + 1) = L.take i ++ [y] := by rw [take_next L i hi, hy]
  have hdn : doneR x L (i + 1) = (doneR x L i || ahead x y) := by unfold doneR; rw [htk, List.any_append]; simp
  have ha : List.take 3 (List.drop (g.length * 3 + i * 3) (rowV enc (g ++ L))) = vmap (enc y) := by rw [rowO_at g L i hi, hy]
  have hs : (rowV enc (g ++ L)).getD (g.length * 3 + i * 3 + 1) (AV.v (Value.tuple { toList := [] })) = iv y.b := by rw [rowO_seq g L i hi, hy]
  have hgl := rowO_len g L
  have hyx : (y.b == x.b) = false := by simpa using hne
  have hw := wrap_succ i (by omega)
  have hx2 : (⟨x.a, x.b, x.c⟩ : It) = x := rfl
  have hy2 : (⟨y.a, y.b, y.c⟩ : It) = y := rfl
  generalize hO : outR x L i = O at hol ⊢
  have hvx : [AV.v (Value.int IntKind.i64 x.a), AV.v (Value.int IntKind.i64 x.b), AV.v (Value.int IntKind.i64 x.c)] = vmap (enc x) := rfl
  have hvy : [AV.v (Value.int IntKind.i64 y.a), AV.v (Value.int IntKind.i64 y.b), AV.v (Value.int IntKind.i64 y.c)] = vmap (enc y) := rfl
  have fin : ∀ (r m : Nat) (d : Bool) (O' : List It) (os : List (Option AO)), outR x L (i + 1) = O' → doneR x L (i + 1) = d → m = O'.length → r = 1101 ∨ r = 1103 →
      getK [0, 2, 1001, 1100, 1101, 1102, 1103, 1104] os 0 = some (lob g L) → getK [0, 2, 1001, 1100, 1101, 1102, 1103, 1104] os 2 = some (boxO x) → getK [0, 2, 1001, 1100, 1101, 1102, 1103, 1104] os r = some (.cells (rowV enc O') tIt) →
      (53 : Nat) = 53 ∧ (AX.normal : AX) = .normal ∧ ∃ l, FitT [0, 2, 1001, 1100, 1101, 1102, 1103, 1104] [0, 3, 4, 5, 6, 7, 8] [lsl 0 g L, AV.ptr 2 0, AV.any, AV.any, AV.slice r 0 m 3 (.lo m), AV.v (Value.bool d), iv (Int.ofNat (i + 1))] os (aRPut g L (outR x L (i + 1)) (doneR x L (i + 1)) (i + 1)) (oRPut g L (outR x L (i + 1)) x) l := by
    intro r m d O' os e1 e2 e3 hr k0 k2 kr
    subst e1 e2 e3
    have hs0 : sg [(1001, r)] 0 = 0 := rfl
    have hs2 : sg [(1001, r)] 2 = 2 := rfl
    have hs1 : sg [(1001, r)] 1001 = r := rfl
    refine ⟨rfl, rfl, [(1001, r)], rfl, ?_, ⟨?_, ?_, ?_, Wk.refl _, Wk.refl _, trivial⟩, ⟨⟨_, k0, OW.of_eq ?_⟩, ⟨_, kr, OW.of_eq ?_⟩, ⟨_, k2, OW.of_eq ?_⟩, trivial⟩⟩
    · rcases hr with rfl | rfl <;> rfl
    · exact Wk.refl _
    · exact Wk.refl _
    · exact Wk.refl _
    · simp only [lob, AO.ren, rens_rowV]
    · simp only [AO.ren, rens_rowV]
    · rfl
  refine ⟨⟨fun _ => ⟨fun h1 => ⟨fun h2 => ⟨?_, ?_⟩, fun h2 => ⟨?_, ?_⟩⟩, fun h1 => ⟨?_, ?_⟩⟩, fun h => by simp [hi] at h⟩⟩
  case refine_2 =>
    have hd : doneR x L i = false := by simpa using h1
    have hOe : O = L.take i := by rw [← hO]; exact outP_yet hd
    refine fin 1103 (O.length + 1 + 1) true (O ++ [x] ++ [y]) _ ?_ ?_ (by simp) (.inr rfl) rfl rfl ?_
    · unfold outR; rw [htk, outP_now hd h2, hOe]
    · rw [hdn, h2, Bool.or_true]
    · rw [hvx, hvy, row_add, row_addN _ _ (by simp)]; rfl
  case refine_4 =>
    have hd : doneR x L i = false := by simpa using h1
    have hOe : O = L.take i := by rw [← hO]; exact outP_yet hd
    refine fin 1101 (O.length + 1) (doneR x L i) (O ++ [y]) _ ?_ ?_ (by simp) (.inl rfl) rfl rfl ?_
    · unfold outR; rw [htk, outP_not hd h2, hOe]
    · rw [hdn, h2, Bool.or_false]
    · rw [hvy, row_add]; rfl
  case refine_6 =>
    have hd : doneR x L i = true := by simpa using h1
    refine fin 1101 (O.length + 1) (doneR x L i) (O ++ [y]) _ ?_ ?_ (by simp) (.inl rfl) rfl rfl ?_
    · unfold outR; rw [htk, outP_done hd]; rw [← hO]; rfl
    · rw [hdn, hd, Bool.true_or]
    · rw [hvy, row_add]; rfl
  all_goals
    have hr2 : (O.length + 1 + 1) * 24 ≤ 140737488355328 := Nat.le_trans (Nat.mul_le_mul_right 24 (show O.length + 1 + 1 ≤ L.length + 2 by omega)) hb
    have h2x : List.take ((O.length + 1) * 3) (List.drop 0 (rowV enc O ++ vmap (enc x))) = rowV enc (O ++ [x]) := by rw [← rowV_one (enc := enc), ← rowV_append, row_whole _ _ (by simp)]
    simp only [Cnd.holds, h2x, ha, hs, hyx, hgl, hvx, hvy, row_whole, row_add, rowV_length enc_length, Nat.ble_eq, Nat.blt_eq, List.length_append, List.length_singleton, vmap_length, enc_length, Nat.beq_refl]
    and_intros
    all_goals first
      | (with_reducible exact trivial)
      | with_reducible rfl
      | (with_reducible exact Wk.refl _)
      | (with_reducible exact VW.refl _)
      | (with_reducible exact wk_lit _)
      | (with_reducible exact wk_int hw)
      | exact Wk.refl _
      | (with_reducible exact hr2)
      | exact rfl
      | (clear hw hr2; omega)
end
end Go.Proofs.Ytcpijmlaglcblaa.Rk

/- ref.Put: the loop's contract. -/
set_option linter.unusedVariables false
set_option linter.unusedSimpArgs false
set_option maxRecDepth 100000
namespace Go.Proofs.Ytcpijmlaglcblaa.Rk
open Go Go.RowKit Go.Proofs.Ytcpijmlaglcblaa.Eng
noncomputable section
theorem sub_down {i n : Nat} (h : i < n) : n - (i + 1) < n - i := by omega
/-- No item of the list bears the seq. -/
def Lacks (x : It) (L : List It) : Prop := hasSeq x.b L = false
theorem Lacks.ne {x : It} {L : List It} (h : Lacks x L) (i : Nat) (hi : i < L.length) : (L.getD i It.zero).b ≠ x.b := by
  intro e
  have hm : L.getD i It.zero ∈ L := by rw [List.getD, List.getElem?_eq_getElem hi]; exact List.getElem_mem _
  exact List.any_eq_false.1 h _ hm (by rw [e]; exact beq_self_eq_true _)
theorem rput_loop (g L : List It) (x : It) (hb : Room2 L) (hl : Lacks x L) :
    LTri Try.prog default (loopN fRPut 4) (tms 0 53 (aRPut g L [] false 0)) (oRPut g L [] x) (.exit 0) (tms 0 53 (zRPut g L (outP x L) (L.any fun y => ahead x y))) (oRPut g L (outP x L) x) := by
  have e1 : ([] : List It) = outR x L 0 := by unfold outR outP; rfl
  have e2 : false = doneR x L 0 := rfl
  suffices h : LTri Try.prog default (loopN fRPut 4) (tms 0 53 (aRPut g L (outR x L 0) (doneR x L 0) 0)) (oRPut g L (outR x L 0) x) (.exit 0) (tms 0 53 (zRPut g L (outP x L) (L.any fun y => ahead x y))) (oRPut g L (outP x L) x) by rw [← e1, ← e2] at h; exact h
  clear e1 e2
  have key := ltri_V (P := Try.prog) (W := default) (b := loopN fRPut 4) (σ := stR L) (g := fRPut) (con := fun _ => conL conB) (claim := fun i => hRPut i.1 (L.getD i.1 It.zero) x false) (lcon := fun _ => lconL []) 53 (fun i => aRPut g L (outR x L i.1) (doneR x L i.1) i.1) (fun i => oRPut g L (outR x L i.1) x) (.exit 0) (zRPut g L (outP x L) (L.any fun y => ahead x y)) (oRPut g L (outP x L) x) (fun i => L.length - i.1) [0, 2, 1001, 1100, 1101, 1102, 1103, 1104] [0, 3, 4, 5, 6, 7, 8] 1000 mixed (by intro h; cases h)
    (fun _ => rfl) rfl (fun p F _ => conL_ok rfl fun x hx => conB_ok x hx F) (fun p F _ => lconL_ok rfl fun x hx => by cases hx)
  refine key ?_ ⟨0, Nat.zero_le _⟩
  clear key
  rintro ⟨i, hi⟩ F _
  show VAll _ (wLoop conB (hRPut i (L.getD i It.zero) x false) [] default fRPut (loopN fRPut 4) (tms 0 53 (aRPut g L (outR x L i) (doneR x L i) i)) (oRPut g L (outR x L i) x) [0, 2, 1001, 1100, 1101, 1102, 1103, 1104] [0, 3, 4, 5, 6, 7, 8] F)
  by_cases h1 : i < L.length
  · refine (rput_round g L x hb i h1 (hl.ne i h1) F).mono ?_
    rintro r os n ⟨e1, e2, l, hf⟩
    exact ⟨e1, .inl ⟨e2, ⟨i + 1, h1⟩, sub_down h1, l, hf⟩⟩
  · rw [oLoopRPut_eq, nat_ltC]
    have hie : i = L.length := by omega
    subst hie
    have htk : L.take L.length = L := List.take_length
    refine ⟨⟨fun h => by simp at h, fun _ => ⟨trivial, rfl, .inr ⟨rfl, [(1001, 1001)], rfl, rfl, ?_, ?_⟩⟩⟩⟩
    · have e1 : outR x L L.length = outP x L := by unfold outR; rw [htk]
      have e2 : doneR x L L.length = L.any fun y => ahead x y := by unfold doneR; rw [htk]
      rw [e1, e2]
      exact ⟨Wk.refl _, Wk.refl _, Wk.refl _, Wk.refl _, trivial⟩
    · have e1 : outR x L L.length = outP x L := by unfold outR; rw [htk]
      rw [e1]
      exact ⟨⟨_, rfl, OW.of_eq (by simp only [lob, AO.ren, rens_rowV])⟩, ⟨_, rfl, OW.of_eq (by simp only [lob, AO.ren, rens_rowV])⟩, ⟨_, rfl, OW.refl _⟩, trivial⟩
/-- .. where the seq is there: at the j-th item. -/
structure Has (x : It) (L : List It) (j : Nat) : Prop where
  lt : j < L.length
  eq : (L.getD j It.zero).b = x.b
  ne : ∀ i, i < j → (L.getD i It.zero).b ≠ x.b
theorem has_of {x : It} : ∀ {L : List It}, hasSeq x.b L = true → ∃ j, Has x L j
  | [], h => by cases h
  | y :: L, h => by
    by_cases e : y.b = x.b
    · exact ⟨0, by simp, by simpa using e, fun i hi => by omega⟩
    · have h' : hasSeq x.b L = true := by
        simp only [hasSeq, List.any_cons, Bool.or_eq_true, beq_iff_eq] at h
        rcases h with h | h
        · exact absurd h e
        · exact h
      obtain ⟨j, h1, h2, h3⟩ := has_of h'
      refine ⟨j + 1, by simp; omega, by simpa using h2, fun i hi => ?_⟩
      cases i with
      | zero => simpa using e
      | succ i => simpa using h3 i (by omega)
theorem rput_loopD (g L : List It) (x : It) (hb : Room2 L) (j : Nat) (hl : Has x L j) :
    LTri Try.prog default (loopN fRPut 4) (tms 0 53 (aRPut g L [] false 0)) (oRPut g L [] x) .ret (tms 0 53 (zRPutD g L)) [(0, lob g L)] := by
  have e1 : ([] : List It) = outR x L 0 := by unfold outR outP; rfl
  have e2 : false = doneR x L 0 := rfl
  suffices h : LTri Try.prog default (loopN fRPut 4) (tms 0 53 (aRPut g L (outR x L 0) (doneR x L 0) 0)) (oRPut g L (outR x L 0) x) .ret (tms 0 53 (zRPutD g L)) [(0, lob g L)] by rw [← e1, ← e2] at h; exact h
  clear e1 e2
  have key := ltri_V (P := Try.prog) (W := default) (b := loopN fRPut 4) (σ := {i : Nat // i ≤ j}) (g := fRPut) (con := fun _ => conL conB) (claim := fun i => hRPut i.1 (L.getD i.1 It.zero) x (decide (i.1 = j))) (lcon := fun _ => lconL []) 53 (fun i => aRPut g L (outR x L i.1) (doneR x L i.1) i.1) (fun i => oRPut g L (outR x L i.1) x) .ret (zRPutD g L) [(0, lob g L)] (fun i => j - i.1) [0, 2, 1001, 1100, 1101, 1102, 1103, 1104] [0, 3, 4, 5, 6, 7, 8] 1000 mixed (by intro h; cases h)
    (fun _ => rfl) rfl (fun p F _ => conL_ok rfl fun x hx => conB_ok x hx F) (fun p F _ => lconL_ok rfl fun x hx => by cases hx)
  refine key ?_ ⟨0, Nat.zero_le _⟩
  clear key
  rintro ⟨i, hi⟩ F _
  have hj := hl.lt
  by_cases h1 : i = j
  · subst h1
    show VAll _ (wLoop conB (hRPut i (L.getD i It.zero) x (decide (i = i))) [] default fRPut (loopN fRPut 4) (tms 0 53 (aRPut g L (outR x L i) (doneR x L i) i)) (oRPut g L (outR x L i) x) [0, 2, 1001, 1100, 1101, 1102, 1103, 1104] [0, 3, 4, 5, 6, 7, 8] F)
    rw [show decide (i = i) = true from decide_eq_true rfl, oLoopRPutD_eq, nat_ltC]
    have hs : (rowV enc (g ++ L)).getD (g.length * 3 + i * 3 + 1) (AV.v (Value.tuple { toList := [] })) = iv (L.getD i It.zero).b := rowO_seq g L i hj
    have hgl := rowO_len g L
    have hyx : ((L.getD i It.zero).b == x.b) = true := by simpa using hl.eq
    refine ⟨⟨fun _ => ⟨?_, rfl, .inr ⟨rfl, [], rfl, rfl, ⟨Wk.refl _, Wk.refl _, trivial⟩, ⟨⟨_, rfl, OW.of_eq (by simp only [lob, AO.ren, rens_rowV])⟩, trivial⟩⟩⟩, fun h => by simp [hj] at h⟩⟩
    simp only [Cnd.holds, hs, hyx, hgl, Nat.ble_eq, Nat.blt_eq]
    and_intros
    all_goals first
      | (with_reducible exact trivial)
      | with_reducible rfl
      | (with_reducible exact Wk.refl _)
      | (with_reducible exact wk_lit _)
      | exact Wk.refl _
      | exact rfl
      | omega
  · show VAll _ (wLoop conB (hRPut i (L.getD i It.zero) x (decide (i = j))) [] default fRPut (loopN fRPut 4) (tms 0 53 (aRPut g L (outR x L i) (doneR x L i) i)) (oRPut g L (outR x L i) x) [0, 2, 1001, 1100, 1101, 1102, 1103, 1104] [0, 3, 4, 5, 6, 7, 8] F)
    have hlt : i < j := Nat.lt_of_le_of_ne hi h1
    rw [decide_eq_false h1]
    refine (rput_round g L x hb i (Nat.lt_trans hlt hj) (hl.ne i hlt) F).mono ?_
    rintro r os n ⟨e1, e2, l, hf⟩
    exact ⟨e1, .inl ⟨e2, ⟨i + 1, hlt⟩, sub_down hlt, l, hf⟩⟩
end
end Go.Proofs.Ytcpijmlaglcblaa.Rk

/- ref.Put: the function's runs. -/
set_option linter.unusedVariables false
set_option linter.unusedSimpArgs false
set_option maxRecDepth 100000
namespace Go.Proofs.Ytcpijmlaglcblaa.Rk
open Go Go.RowKit Go.Proofs.Ytcpijmlaglcblaa.Eng
noncomputable section
/-! The function. -/
def gList (k : Nat) : List AV → AP Nat := fun tmps => match getL tmps k with
  | .slice r _ _ _ _ => .ret r
  | _ => .fail "list"
/-- The names of a run in ref.Put: the list, what is collected, the item. -/
def gPut3 : List AV → AP (Nat × Nat × Nat) := fun tmps => match getL tmps 0 with
  | .slice r0 _ _ _ _ => match getL tmps 6 with
    | .slice r1 _ _ _ _ => match getL tmps 3 with
      | .ptr r2 _ => .ret (r0, r1, r2)
      | _ => .fail "put"
    | _ => .fail "put"
  | _ => .fail "put"
def nmP (r0 r1 r2 : Nat) : Nat → Nat := fun k => match Nat.beq k 0 with
  | true => r0
  | false => match Nat.beq k 1001 with
    | true => r1
    | false => r2
def lRPut (g L : List It) (x : It) : List AV → AP (AX × List AV) := mkL gPut3 (fun _ => True) (fun p => nmP p.1 p.2.1 p.2.2) (fun _ => tms 0 53 (aRPut g L [] false 0)) (fun _ => oRPut g L [] x) (fun _ => .leaf (.exit 0) (tms 0 53 (zRPut g L (outP x L) (L.any fun y => ahead x y))) (oRPut g L (outP x L) x))
def lRPutD (g L : List It) (x : It) : List AV → AP (AX × List AV) := mkL gPut3 (fun _ => True) (fun p => nmP p.1 p.2.1 p.2.2) (fun _ => tms 0 53 (aRPut g L [] false 0)) (fun _ => oRPut g L [] x) (fun _ => .leaf .ret (tms 0 53 (zRPutD g L)) [(0, lob g L)])
theorem oRPutF_eq (g L : List It) (x : It) (F : HP) : wRun [] (hintL [(fRPut, 13, 1, hv (itA x))]) [(fRPut, 4, loopN fRPut 4, lRPut g L x)] default fRPut [lsl 0 g L, itA x] [(0, lob g L)] [0, 1100, 1101, 1102, 1103, 1104, 1105] F = VT.ite (!L.any fun y => ahead x y) (VT.leaf (AV.tuple [AV.slice 1104 0 ((outP x L).length + 1) 3 (Cp.lo ((outP x L).length + 1)), AV.v (Value.bool true)]) [some (AO.cells (AV.rens (sgN (nmP 0 1101 1100) [1001] 1102) (rowV enc (g ++ L))) 54), some (AO.cells [AV.v (Value.int IntKind.i64 x.a), AV.v (Value.int IntKind.i64 x.b), AV.v (Value.int IntKind.i64 x.c)] 54), none, none, some (AO.cells [AV.v (Value.int IntKind.i64 x.a), AV.v (Value.int IntKind.i64 x.b), AV.v (Value.int IntKind.i64 x.c)] 54), some (AO.cells (List.take ((outP x L).length * 3) (List.drop 0 (AV.rens (sgN (nmP 0 1101 1100) [1001] 1102) (rowV enc (outP x L)))) ++ [AV.v (Value.int IntKind.i64 x.a), AV.v (Value.int IntKind.i64 x.b), AV.v (Value.int IntKind.i64 x.c)]) 54), none] 1105 ((Cnd.p ((fRPut, 4, loopN fRPut 4, lRPut g L x).snd.snd.fst = (fRPut, 4, loopN fRPut 4, lRPut g L x).snd.snd.fst)).a ((Cnd.p True).a ((Cnd.p (VW [AV.slice 0 (g.length * 3) L.length 3 (Cp.lo L.length), AV.agg [AV.v (Value.int IntKind.i64 x.a), AV.v (Value.int IntKind.i64 x.b), AV.v (Value.int IntKind.i64 x.c)], AV.v (Value.tuple (Array.mk [])), AV.ptr 1100 0, AV.v (Value.slice none 0 0), AV.v (Value.bool false), AV.slice 1101 0 0 3 (Cp.ex 0), AV.v (Value.bool false), AV.v (Value.int IntKind.i64 (Int.ofNat 0)), AV.slice 1101 0 0 3 (Cp.ex 0), AV.v (Value.tuple (Array.mk [])), AV.v (Value.tuple (Array.mk [])), AV.v (Value.tuple (Array.mk [])), AV.v (Value.tuple (Array.mk [])), AV.v (Value.tuple (Array.mk [])), AV.v (Value.tuple (Array.mk [])), AV.v (Value.tuple (Array.mk [])), AV.v (Value.tuple (Array.mk [])), AV.v (Value.tuple (Array.mk [])), AV.v (Value.tuple (Array.mk [])), AV.v (Value.tuple (Array.mk [])), AV.v (Value.tuple (Array.mk [])), AV.v (Value.tuple (Array.mk [])), AV.v (Value.tuple (Array.mk [])), AV.v (Value.tuple (Array.mk [])), AV.v (Value.tuple (Array.mk [])), AV.v (Value.tuple (Array.mk [])), AV.v (Value.tuple (Array.mk [])), AV.v (Value.tuple (Array.mk [])), AV.v (Value.tuple (Array.mk [])), AV.v (Value.tuple (Array.mk [])), AV.v (Value.tuple (Array.mk [])), AV.v (Value.tuple (Array.mk [])), AV.v (Value.tuple (Array.mk [])), AV.v (Value.tuple (Array.mk [])), AV.v (Value.tuple (Array.mk [])), AV.v (Value.tuple (Array.mk [])), AV.v (Value.tuple (Array.mk [])), AV.v (Value.tuple (Array.mk [])), AV.v (Value.tuple (Array.mk [])), AV.v (Value.tuple (Array.mk [])), AV.v (Value.tuple (Array.mk [])), AV.v (Value.tuple (Array.mk [])), AV.v (Value.tuple (Array.mk [])), AV.v (Value.tuple (Array.mk [])), AV.v (Value.tuple (Array.mk [])), AV.v (Value.tuple (Array.mk [])), AV.v (Value.tuple (Array.mk [])), AV.v (Value.tuple (Array.mk [])), AV.v (Value.tuple (Array.mk [])), AV.v (Value.tuple (Array.mk [])), AV.v (Value.tuple (Array.mk [])), AV.v (Value.tuple (Array.mk []))] [AV.slice 0 (g.length * 3) L.length 3 (Cp.lo L.length), AV.any, AV.any, AV.ptr 1100 0, AV.any, AV.any, AV.slice 1101 0 0 3 (Cp.lo 0), AV.v (Value.bool false), AV.v (Value.int IntKind.i64 (Int.ofNat 0)), AV.any, AV.any, AV.any, AV.any, AV.any, AV.any, AV.any, AV.any, AV.any, AV.any, AV.any, AV.any, AV.any, AV.any, AV.any, AV.any, AV.any, AV.any, AV.any, AV.any, AV.any, AV.any, AV.any, AV.any, AV.any, AV.any, AV.any, AV.any, AV.any, AV.any, AV.any, AV.any, AV.any, AV.any, AV.any, AV.any, AV.any, AV.any, AV.any, AV.any, AV.any, AV.any, AV.any, AV.any])).a ((Cnd.p (OW (AO.cells (rowV enc (g ++ L)) 54) (AO.cells (AV.rens (nmP 0 1101 1100) (rowV enc (g ++ L))) 54))).a ((Cnd.p (OW (AO.cells [] 54) (AO.cells [] 54))).a ((Cnd.p (OW (AO.cells [AV.v (Value.int IntKind.i64 x.a), AV.v (Value.int IntKind.i64 x.b), AV.v (Value.int IntKind.i64 x.c)] 54) (AO.cells [AV.v (Value.int IntKind.i64 x.a), AV.v (Value.int IntKind.i64 x.b), AV.v (Value.int IntKind.i64 x.c)] 54))).a (((Cnd.p (true = true)).a ((Cnd.p ([AV.v (Value.int IntKind.i64 x.a), AV.v (Value.int IntKind.i64 x.b), AV.v (Value.int IntKind.i64 x.c)] = [AV.v (Value.int IntKind.i64 x.a), AV.v (Value.int IntKind.i64 x.b), AV.v (Value.int IntKind.i64 x.c)])).a ((Cnd.p (Wk (AV.agg [AV.v (Value.int IntKind.i64 x.a), AV.v (Value.int IntKind.i64 x.b), AV.v (Value.int IntKind.i64 x.c)]) (AV.agg [AV.v (Value.int IntKind.i64 x.a), AV.v (Value.int IntKind.i64 x.b), AV.v (Value.int IntKind.i64 x.c)]))).a Cnd.t))).a (((Cnd.p (true = true)).a ((Cnd.p (true = true)).a ((Cnd.p (true = true)).a ((Cnd.p (true = true)).a ((Cnd.p ((0 + (outP x L).length * 3).ble (AV.rens (sgN (nmP 0 1101 1100) [1001] 1102) (rowV enc (outP x L))).length = true)).a ((Cnd.p ((((outP x L).length + 1) * 24).ble 140737488355328 = true)).a ((Cnd.p (((outP x L).length + 1).ble 9223372036854775807 = true)).a ((Cnd.p ((List.take ((outP x L).length * 3) (List.drop 0 (AV.rens (sgN (nmP 0 1101 1100) [1001] 1102) (rowV enc (outP x L))))).length.beq ((outP x L).length * 3) = true)).a Cnd.t)))))))).a Cnd.t))))))))) (VT.leaf (AV.tuple [AV.slice 1102 0 (outP x L).length 3 (Cp.lo (outP x L).length), AV.v (Value.bool true)]) [some (AO.cells (AV.rens (sgN (nmP 0 1101 1100) [1001] 1102) (rowV enc (g ++ L))) 54), some (AO.cells [AV.v (Value.int IntKind.i64 x.a), AV.v (Value.int IntKind.i64 x.b), AV.v (Value.int IntKind.i64 x.c)] 54), none, some (AO.cells (AV.rens (sgN (nmP 0 1101 1100) [1001] 1102) (rowV enc (outP x L))) 54), none, none, none] 1103 ((Cnd.p ((fRPut, 4, loopN fRPut 4, lRPut g L x).snd.snd.fst = (fRPut, 4, loopN fRPut 4, lRPut g L x).snd.snd.fst)).a ((Cnd.p True).a ((Cnd.p (VW [AV.slice 0 (g.length * 3) L.length 3 (Cp.lo L.length), AV.agg [AV.v (Value.int IntKind.i64 x.a), AV.v (Value.int IntKind.i64 x.b), AV.v (Value.int IntKind.i64 x.c)], AV.v (Value.tuple (Array.mk [])), AV.ptr 1100 0, AV.v (Value.slice none 0 0), AV.v (Value.bool false), AV.slice 1101 0 0 3 (Cp.ex 0), AV.v (Value.bool false), AV.v (Value.int IntKind.i64 (Int.ofNat 0)), AV.slice 1101 0 0 3 (Cp.ex 0), AV.v (Value.tuple (Array.mk [])), AV.v (Value.tuple (Array.mk [])), AV.v (Value.tuple (Array.mk [])), AV.v (Value.tuple (Array.mk [])), AV.v (Value.tuple (Array.mk [])), AV.v (Value.tuple (Array.mk [])), AV.v (Value.tuple (Array.mk [])), AV.v (Value.tuple (Array.mk [])), AV.v (Value.tuple (Array.mk [])), AV.v (Value.tuple (Array.mk [])), AV.v (Value.tuple (Array.mk [])), AV.v (Value.tuple (Array.mk [])), AV.v (Value.tuple (Array.mk [])), AV.v (Value.tuple (Array.mk [])), AV.v (Value.tuple (Array.mk [])), AV.v (Value.tuple (Array.mk [])), AV.v (Value.tuple (Array.mk [])), AV.v (Value.tuple (Array.mk [])), AV.v (Value.tuple (Array.mk [])), AV.v (Value.tuple (Array.mk [])), AV.v (Value.tuple (Array.mk [])), AV.v (Value.tuple (Array.mk [])), AV.v (Value.tuple (Array.mk [])), AV.v (Value.tuple (Array.mk [])), AV.v (Value.tuple (Array.mk [])), AV.v (Value.tuple (Array.mk [])), AV.v (Value.tuple (Array.mk [])), AV.v (Value.tuple (Array.mk [])), AV.v (Value.tuple (Array.mk [])), AV.v (Value.tuple (Array.mk [])), AV.v (Value.tuple (Array.mk [])), AV.v (Value.tuple (Array.mk [])), AV.v (Value.tuple (Array.mk [])), AV.v (Value.tuple (Array.mk [])), AV.v (Value.tuple (Array.mk [])), AV.v (Value.tuple (Array.mk [])), AV.v (Value.tuple (Array.mk [])), AV.v (Value.tuple (Array.mk [])), AV.v (Value.tuple (Array.mk [])), AV.v (Value.tuple (Array.mk [])), AV.v (Value.tuple (Array.mk [])), AV.v (Value.tuple (Array.mk [])), AV.v (Value.tuple (Array.mk []))] [AV.slice 0 (g.length * 3) L.length 3 (Cp.lo L.length), AV.any, AV.any, AV.ptr 1100 0, AV.any, AV.any, AV.slice 1101 0 0 3 (Cp.lo 0), AV.v (Value.bool false), AV.v (Value.int IntKind.i64 (Int.ofNat 0)), AV.any, AV.any, AV.any, AV.any, AV.any, AV.any, AV.any, AV.any, AV.any, AV.any, AV.any, AV.any, AV.any, AV.any, AV.any, AV.any, AV.any, AV.any, AV.any, AV.any, AV.any, AV.any, AV.any, AV.any, AV.any, AV.any, AV.any, AV.any, AV.any, AV.any, AV.any, AV.any, AV.any, AV.any, AV.any, AV.any, AV.any, AV.any, AV.any, AV.any, AV.any, AV.any, AV.any, AV.any])).a ((Cnd.p (OW (AO.cells (rowV enc (g ++ L)) 54) (AO.cells (AV.rens (nmP 0 1101 1100) (rowV enc (g ++ L))) 54))).a ((Cnd.p (OW (AO.cells [] 54) (AO.cells [] 54))).a ((Cnd.p (OW (AO.cells [AV.v (Value.int IntKind.i64 x.a), AV.v (Value.int IntKind.i64 x.b), AV.v (Value.int IntKind.i64 x.c)] 54) (AO.cells [AV.v (Value.int IntKind.i64 x.a), AV.v (Value.int IntKind.i64 x.b), AV.v (Value.int IntKind.i64 x.c)] 54))).a Cnd.t))))))) := by kernel_rfl
theorem oRPutFD_eq (g L : List It) (x : It) (F : HP) : wRun [] noHints [(fRPut, 4, loopN fRPut 4, lRPutD g L x)] default fRPut [lsl 0 g L, itA x] [(0, lob g L)] [0, 1100, 1101, 1102, 1103, 1104, 1105] F = VT.leaf (AV.tuple [AV.slice 0 (g.length * 3) L.length 3 (Cp.lo L.length), AV.v (Value.bool false)]) [some (AO.cells (AV.rens (sgN (nmP 0 1101 1100) [] 0) (rowV enc (g ++ L))) 54), none, none, none, none, none, none] 1102 ((Cnd.p ((fRPut, 4, loopN fRPut 4, lRPutD g L x).snd.snd.fst = (fRPut, 4, loopN fRPut 4, lRPutD g L x).snd.snd.fst)).a ((Cnd.p True).a ((Cnd.p (VW [AV.slice 0 (g.length * 3) L.length 3 (Cp.lo L.length), AV.agg [AV.v (Value.int IntKind.i64 x.a), AV.v (Value.int IntKind.i64 x.b), AV.v (Value.int IntKind.i64 x.c)], AV.v (Value.tuple (Array.mk [])), AV.ptr 1100 0, AV.v (Value.slice none 0 0), AV.v (Value.bool false), AV.slice 1101 0 0 3 (Cp.ex 0), AV.v (Value.bool false), AV.v (Value.int IntKind.i64 (Int.ofNat 0)), AV.slice 1101 0 0 3 (Cp.ex 0), AV.v (Value.tuple (Array.mk [])), AV.v (Value.tuple (Array.mk [])), AV.v (Value.tuple (Array.mk [])), AV.v (Value.tuple (Array.mk [])), AV.v (Value.tuple (Array.mk [])), AV.v (Value.tuple (Array.mk [])), AV.v (Value.tuple (Array.mk [])), AV.v (Value.tuple (Array.mk [])), AV.v (Value.tuple (Array.mk [])), AV.v (Value.tuple (Array.mk [])), AV.v (Value.tuple (Array.mk [])), AV.v (Value.tuple (Array.mk [])), AV.v (Value.tuple (Array.mk [])), AV.v (Value.tuple (Array.mk [])), AV.v (Value.tuple (Array.mk [])), AV.v (Value.tuple (Array.mk [])), AV.v (Value.tuple (Array.mk [])), AV.v (Value.tuple (Array.mk [])), AV.v (Value.tuple (Array.mk [])), AV.v (Value.tuple (Array.mk [])), AV.v (Value.tuple (Array.mk [])), AV.v (Value.tuple (Array.mk [])), AV.v (Value.tuple (Array.mk [])), AV.v (Value.tuple (Array.mk [])), AV.v (Value.tuple (Array.mk [])), AV.v (Value.tuple (Array.mk [])), AV.v (Value.tuple (Array.mk [])), AV.v (Value.tuple (Array.mk [])), AV.v (Value.tuple (Array.mk [])), AV.v (Value.tuple (Array.mk [])), AV.v (Value.tuple (Array.mk [])), AV.v (Value.tuple (Array.mk [])), AV.v (Value.tuple (Array.mk [])), AV.v (Value.tuple (Array.mk [])), AV.v (Value.tuple (Array.mk [])), AV.v (Value.tuple (Array.mk [])), AV.v (Value.tuple (Array.mk [])), AV.v (Value.tuple (Array.mk [])), AV.v (Value.tuple (Array.mk [])), AV.v (Value.tuple (Array.mk [])), AV.v (Value.tuple (Array.mk [])), AV.v (Value.tuple (Array.mk [])), AV.v (Value.tuple (Array.mk []))] [AV.slice 0 (g.length * 3) L.length 3 (Cp.lo L.length), AV.any, AV.any, AV.ptr 1100 0, AV.any, AV.any, AV.slice 1101 0 0 3 (Cp.lo 0), AV.v (Value.bool false), AV.v (Value.int IntKind.i64 (Int.ofNat 0)), AV.any, AV.any, AV.any, AV.any, AV.any, AV.any, AV.any, AV.any, AV.any, AV.any, AV.any, AV.any, AV.any, AV.any, AV.any, AV.any, AV.any, AV.any, AV.any, AV.any, AV.any, AV.any, AV.any, AV.any, AV.any, AV.any, AV.any, AV.any, AV.any, AV.any, AV.any, AV.any, AV.any, AV.any, AV.any, AV.any, AV.any, AV.any, AV.any, AV.any, AV.any, AV.any, AV.any, AV.any])).a ((Cnd.p (OW (AO.cells (rowV enc (g ++ L)) 54) (AO.cells (AV.rens (nmP 0 1101 1100) (rowV enc (g ++ L))) 54))).a ((Cnd.p (OW (AO.cells [] 54) (AO.cells [] 54))).a ((Cnd.p (OW (AO.cells [AV.v (Value.int IntKind.i64 x.a), AV.v (Value.int IntKind.i64 x.b), AV.v (Value.int IntKind.i64 x.c)] 54) (AO.cells [AV.v (Value.int IntKind.i64 x.a), AV.v (Value.int IntKind.i64 x.b), AV.v (Value.int IntKind.i64 x.c)] 54))).a Cnd.t)))))) := by kernel_rfl
end
end Go.Proofs.Ytcpijmlaglcblaa.Rk

/- ref.Put: contracts. -/
set_option linter.unusedVariables false
set_option linter.unusedSimpArgs false
set_option maxRecDepth 100000
namespace Go.Proofs.Ytcpijmlaglcblaa.Rk
open Go Go.RowKit Go.Proofs.Ytcpijmlaglcblaa.Eng
theorem ins_end {x : It} {L : List It} (h : L.any (fun y => ahead x y) = false) : ins x L = L ++ [x] := by
  have := ins_none (x := x) (P := L) [] h
  rwa [List.append_nil] at this
theorem outP_ins {x : It} {L : List It} (h : L.any (fun y => ahead x y) = true) : outP x L = ins x L := by
  unfold outP; rw [if_pos h]
theorem ow_rens {l : List AV} {e : TypeId} {xs : List It} (h : l = rowV enc xs) : OW (.cells l e) (.cells (rowV enc xs) e) := by subst h; exact OW.refl _
theorem lob_ren (σ : Nat → Nat) (g L : List It) : (lob g L).ren σ = lob g L := by simp only [lob, AO.ren, rens_rowV]
theorem lob_cl (K : Nat → Bool) (g L : List It) : (lob g L).cl K := cls_rowV _ _
theorem row_cl (K : Nat → Bool) (L : List It) : (AO.cells (rowV enc L) tIt).cl K := cls_rowV _ _
theorem gPut3_ro : ∀ args, RO (gPut3 args) := by
  intro args
  unfold gPut3
  repeat' split
  all_goals first | exact RO.ret _ | exact RO.fail _
theorem cls_oRPut (K : Nat → Bool) (g L out : List It) (x : It) : ∀ y ∈ oRPut g L out x, y.2.cl K := by
  intro y hy
  simp only [oRPut, List.mem_cons, List.not_mem_nil, or_false] at hy
  rcases hy with rfl | rfl | rfl
  · exact cls_rowV _ _
  · exact cls_rowV _ _
  · exact cls_vmap _ _
theorem lRPut_ok (g L : List It) (x : It) (hb : Room2 L) (hl : Lacks x L) (F : HP) : L1OK Try.prog F (loopN fRPut 4) (lRPut g L x) := by
  refine mkL_ok (W := default) oldDef gPut3_ro (fun _ _ => rput_loop g L x hb hl) fun _ => ?_
  simp only [RT.pick]
  exact closedT rfl rfl (all_cons rfl (all_cons rfl (all_cons rfl (all_cons trivial (all_cons trivial all_nil))))) (cls_oRPut _ _ _ _ _) (all_cons rfl (all_cons rfl (all_cons rfl (all_cons trivial all_nil)))) (cls_oRPut _ _ _ _ _)
theorem lRPutD_ok (g L : List It) (x : It) (hb : Room2 L) {j : Nat} (hl : Has x L j) (F : HP) : L1OK Try.prog F (loopN fRPut 4) (lRPutD g L x) := by
  refine mkL_ok (W := default) oldDef gPut3_ro (fun _ _ => rput_loopD g L x hb j hl) fun _ => ?_
  simp only [RT.pick]
  exact closedT rfl rfl (all_cons rfl (all_cons rfl (all_cons rfl (all_cons trivial (all_cons trivial all_nil))))) (cls_oRPut _ _ _ _ _) (all_cons rfl (all_cons trivial all_nil)) (all_cons (lob_cl _ _ _) all_nil)
theorem rput_tri (g L : List It) (x : It) (hb : Room2 L) (hl : Lacks x L) : Tri Try.prog default fRPut [lsl 0 g L, itA x] [(0, lob g L)] (.tuple [lsl 1000 [] (ins x L), .v (.bool true)]) [(0, lob g L), (1000, lob [] (ins x L))] := by
  refine tri_V (con := conL []) (claim := hintL [(fRPut, 13, 1, hv (itA x))]) (lcon := lconL [(fRPut, 4, loopN fRPut 4, lRPut g L x)]) [0, 1100, 1101, 1102, 1103, 1104, 1105] 1000 mixed rfl (fun F _ => conL_ok rfl fun x hx => by cases hx) (fun F _ => lconL_ok rfl fun y hy => by simp only [List.mem_singleton] at hy; subst hy; exact lRPut_ok g L x hb hl F) fun F _ => ?_
  show VAll _ (wRun [] (hintL [(fRPut, 13, 1, hv (itA x))]) [(fRPut, 4, loopN fRPut 4, lRPut g L x)] default fRPut [lsl 0 g L, itA x] [(0, lob g L)] [0, 1100, 1101, 1102, 1103, 1104, 1105] F)
  rw [oRPutF_eq]
  have hvx : [AV.v (Value.int IntKind.i64 x.a), AV.v (Value.int IntKind.i64 x.b), AV.v (Value.int IntKind.i64 x.c)] = vmap (enc x) := rfl
  have fin : ∀ (r m : Nat) (os : List (Option AO)), m = (ins x L).length → r = 1104 ∨ r = 1102 → getK [0, 1100, 1101, 1102, 1103, 1104, 1105] os 0 = some (lob g L) → getK [0, 1100, 1101, 1102, 1103, 1104, 1105] os r = some (.cells (rowV enc (ins x L)) tIt) →
      Fits [0, 1100, 1101, 1102, 1103, 1104, 1105] [.tuple [AV.slice r 0 m 3 (.lo m), .v (.bool true)]] os [.tuple [lsl 1000 [] (ins x L), .v (.bool true)]] [(0, lob g L), (1000, lob [] (ins x L))] := by
    intro r m os hm hr h0 h1
    subst hm
    refine (fit_mk (vs' := [.tuple [lsl 1000 [] (ins x L), .v (.bool true)]]) (H' := [(0, lob g L), (1000, lob [] (ins x L))]) [(1000, r)] rfl ?_ (VW.refl _) ⟨⟨_, h0, by rw [lob_ren]; exact OW.refl _⟩, ⟨_, h1, by rw [lob_ren]; exact OW.refl _⟩, trivial⟩).fits rfl
    rcases hr with rfl | rfl <;> rfl
  refine ⟨⟨fun h1 => ⟨?_, ?_⟩, fun h1 => ⟨?_, ?_⟩⟩⟩
  case refine_2 =>
    have ha : L.any (fun y => ahead x y) = false := by simpa using h1
    have hO : outP x L = L := outP_yet ha
    refine fin 1104 _ _ ?_ (.inl rfl) ?_ ?_
    · rw [hO, ins_end ha, List.length_append]; rfl
    · rw [rens_rowV]; rfl
    · simp only [rens_rowV]; rw [hvx, hO, row_add, ins_end ha]; rfl
  case refine_4 =>
    have ha : L.any (fun y => ahead x y) = true := by simpa using h1
    have hO : outP x L = ins x L := outP_ins ha
    refine fin 1102 _ _ ?_ (.inr rfl) ?_ ?_
    · rw [hO]
    · rw [rens_rowV]; rfl
    · simp only [rens_rowV]; rw [hO]; rfl
  all_goals
    have hol : (outP x L).length + 1 ≤ L.length + 2 := by rw [outP_len]; split <;> omega
    have hr2 : ((outP x L).length + 1) * 24 ≤ 140737488355328 := Nat.le_trans (Nat.mul_le_mul_right 24 hol) hb
    have hr3 : (outP x L).length + 1 ≤ 9223372036854775807 := Nat.le_trans (Nat.le_mul_of_pos_right _ (by decide)) (Nat.le_trans hr2 (by decide))
    simp only [Cnd.holds, rens_rowV, row_whole, rowV_length enc_length, Nat.ble_eq, Nat.blt_eq, Nat.zero_add, Nat.beq_refl]
    and_intros
    all_goals first
      | (with_reducible exact trivial)
      | with_reducible rfl
      | (with_reducible exact Wk.refl _)
      | (with_reducible exact VW.refl _)
      | (with_reducible exact OW.refl _)
      | (with_reducible exact hr2)
      | (with_reducible exact hr3)
      | (with_reducible exact Nat.le_refl _)
      | (repeat (first | exact VW.nil | refine VW.cons (Wk.refl _) ?_ | refine VW.cons (Wk.any _) ?_ | refine VW.cons (wk_cap (Nat.le_refl _)) ?_))
      | exact rfl
theorem rputD_tri (g L : List It) (x : It) (hb : Room2 L) {j : Nat} (hl : Has x L j) : Tri Try.prog default fRPut [lsl 0 g L, itA x] [(0, lob g L)] (.tuple [lsl 0 g L, .v (.bool false)]) [(0, lob g L)] := by
  refine tri_V (con := conL []) (claim := noHints) (lcon := lconL [(fRPut, 4, loopN fRPut 4, lRPutD g L x)]) [0, 1100, 1101, 1102, 1103, 1104, 1105] 1000 mixed rfl (fun F _ => conL_ok rfl fun x hx => by cases hx) (fun F _ => lconL_ok rfl fun y hy => by simp only [List.mem_singleton] at hy; subst hy; exact lRPutD_ok g L x hb hl F) fun F _ => ?_
  show VAll _ (wRun [] noHints [(fRPut, 4, loopN fRPut 4, lRPutD g L x)] default fRPut [lsl 0 g L, itA x] [(0, lob g L)] [0, 1100, 1101, 1102, 1103, 1104, 1105] F)
  rw [oRPutFD_eq]
  refine ⟨⟨?_, (fit_mk (vs' := [.tuple [lsl 0 g L, .v (.bool false)]]) (H' := [(0, lob g L)]) [] rfl rfl (VW.refl _) ⟨⟨_, rfl, by rw [lob_ren, rens_rowV]; exact OW.refl _⟩, trivial⟩).fits rfl⟩⟩
  simp only [Cnd.holds, rens_rowV]
  and_intros
  all_goals first
    | (with_reducible exact trivial)
    | with_reducible rfl
    | (with_reducible exact OW.refl _)
    | (repeat (first | exact VW.nil | refine VW.cons (Wk.refl _) ?_ | refine VW.cons (Wk.any _) ?_ | refine VW.cons (wk_cap (Nat.le_refl _)) ?_))
    | exact rfl
/-- ref.Put, both ways. -/
noncomputable def rtRPut (g L : List It) (x : It) : RT := .ite (hasSeq x.b L) (.leaf .ret [.tuple [lsl 0 g L, .v (.bool false)]] [(0, lob g L)]) (.leaf .ret [.tuple [lsl 1000 [] (ins x L), .v (.bool true)]] [(0, lob g L), (1000, lob [] (ins x L))])
def gArg0 : List AV → AP Nat := fun args => match args with
  | .slice r _ _ _ _ :: _ => .ret r
  | _ => .fail "list"
theorem gArg0_ro : ∀ args, RO (gArg0 args) := by
  intro args
  unfold gArg0
  split
  · exact RO.ret _
  · exact RO.fail _
noncomputable def cRPut (g L : List It) (x : It) : List AV → Option (AP AV) := mkC gArg0 (fun _ => True) (fun r _ => r) (fun _ => [lsl 0 g L, itA x]) (fun _ => [(0, lob g L)]) (fun _ => rtRPut g L x)
theorem cRPut_ok (g L : List It) (x : It) (hb : Room2 L) (F : HP) : C1OK Try.prog F fRPut (cRPut g L x) := by
  cases hq : hasSeq x.b L with
  | true =>
    obtain ⟨j, hj⟩ := has_of hq
    refine mkC_ok (W := default) oldDef (fun _ => .tuple [lsl 0 g L, .v (.bool false)]) gArg0_ro (fun _ => by simp only [rtRPut, RT.pick, hq]) (fun _ _ => ?_) fun _ => ?_
    · simp only [rtRPut, RT.pick, hq]; exact rputD_tri g L x hb hj
    · simp only [rtRPut, RT.pick, hq]
      exact ⟨rfl, rfl, ⟨rfl, cls_vmap _ _, trivial⟩, all_cons (lob_cl _ _ _) all_nil, ⟨⟨rfl, trivial, trivial⟩, trivial⟩, all_cons (lob_cl _ _ _) all_nil⟩
  | false =>
    refine mkC_ok (W := default) oldDef (fun _ => .tuple [lsl 1000 [] (ins x L), .v (.bool true)]) gArg0_ro (fun _ => by simp only [rtRPut, RT.pick, hq]) (fun _ _ => ?_) fun _ => ?_
    · simp only [rtRPut, RT.pick, hq]; exact rput_tri g L x hb hq
    · simp only [rtRPut, RT.pick, hq]
      exact ⟨rfl, rfl, ⟨rfl, cls_vmap _ _, trivial⟩, all_cons (lob_cl _ _ _) all_nil, ⟨⟨rfl, trivial, trivial⟩, trivial⟩, all_cons (lob_cl _ _ _) (all_cons (lob_cl _ _ _) all_nil)⟩
end Go.Proofs.Ytcpijmlaglcblaa.Rk

/- ref.Take: the loop's runs. -/
set_option linter.unusedVariables false
set_option linter.unusedSimpArgs false
set_option maxRecDepth 100000
namespace Go.Proofs.Ytcpijmlaglcblaa.Rk
open Go Go.RowKit Go.Proofs.Ytcpijmlaglcblaa.Eng
noncomputable section
abbrev fRTake : Nat := 16
def aRTake (g L out : List It) (q : Int) (there : Bool) (i : Nat) : List (Nat × AV) := [(0, lsl 0 g L), (1, iv q), (5, .ptr 3 0), (7, .slice 1001 0 out.length 3 (.lo out.length)), (8, .ptr 2 0), (9, .v (.bool there)), (10, iv (Int.ofNat i))]
def zRTake (out : List It) (there : Bool) : List (Nat × AV) := [(5, .ptr 3 0), (7, .slice 1001 0 out.length 3 (.lo out.length)), (8, .ptr 2 0), (9, .v (.bool there))]
def oRTake (g L out : List It) (x : It) : LH := [(0, lob g L), (1001, .cells (rowV enc out) tIt), (2, boxO x), (3, boxO It.zero)]
def hRTake (i : Nat) (y : It) (b : Bool) : ClaimT := hintL [(fRTake, 6, 4, hv (iv y.b)), (fRTake, 6, 6, hv (.lit b)), (fRTake, 7, 3, hv (itA y)), (fRTake, 8, 4, hv (itA y)), (fRTake, 5, 1, hv (iv (Int.ofNat (i + 1))))]
theorem oLoopRTake_eq (g L out : List It) (x y : It) (q : Int) (there b : Bool) (i : Nat) (F : HP) : wLoop [] (hRTake i y false) [] default fRTake (loopN fRTake 4) (tms 0 40 (aRTake g L out q there i)) (oRTake g L out x) [0, 2, 3, 1001, 1100, 1101] [0, 1, 5, 7, 8, 9, 10] F = VT.ite (decide (Int.ofNat i < ↑L.length)) (VT.leaf (AX.normal, [AV.slice 0 (g.length * 3) L.length 3 (Cp.lo L.length), AV.v (Value.int IntKind.i64 q), AV.ptr 3 0, AV.slice 1101 0 (out.length + 1) 3 (Cp.lo (out.length + 1)), AV.ptr 2 0, AV.v (Value.bool there), AV.v (Value.int IntKind.i64 (Int.ofNat (i + 1)))], 40) [some (AO.cells (rowV enc (g ++ L)) 54), some (AO.cells [AV.v (Value.int IntKind.i64 x.a), AV.v (Value.int IntKind.i64 x.b), AV.v (Value.int IntKind.i64 x.c)] 54), some (AO.cells [AV.v (Value.int IntKind.i64 (Int.ofNat 0)), AV.v (Value.int IntKind.i64 (Int.ofNat 0)), AV.v (Value.int IntKind.i64 (Int.ofNat 0))] 54), none, some (AO.cells [AV.v (Value.int IntKind.i64 y.a), AV.v (Value.int IntKind.i64 y.b), AV.v (Value.int IntKind.i64 y.c)] 54), some (AO.cells (List.take (out.length * 3) (List.drop 0 (rowV enc out)) ++ [AV.v (Value.int IntKind.i64 y.a), AV.v (Value.int IntKind.i64 y.b), AV.v (Value.int IntKind.i64 y.c)]) 54)] 1102 (((Cnd.p (i.blt L.length = true)).a Cnd.t).a (((Cnd.p ((g.length * 3 + i * 3 + 1).blt (rowV enc (g ++ L)).length = true)).a ((Cnd.p ((rowV enc (g ++ L)).getD (g.length * 3 + i * 3 + 1) (AV.v (Value.tuple (Array.mk []))) = AV.v (Value.int IntKind.i64 ((rowV enc (g ++ L)).getD (g.length * 3 + i * 3 + 1) (AV.v (Value.tuple (Array.mk [])))).intOf))).a ((Cnd.p (Wk (AV.v (Value.int IntKind.i64 ((rowV enc (g ++ L)).getD (g.length * 3 + i * 3 + 1) (AV.v (Value.tuple (Array.mk [])))).intOf)) (AV.v (Value.int IntKind.i64 y.b)))).a Cnd.t))).a (((Cnd.p (Wk (AV.v (Value.bool (y.b == q))) (AV.lit false))).a Cnd.t).a (((Cnd.p (i.blt L.length = true)).a Cnd.t).a (((Cnd.p ((List.take 3 (List.drop (g.length * 3 + i * 3) (rowV enc (g ++ L)))).length.beq 3 = true)).a ((Cnd.p (List.take 3 (List.drop (g.length * 3 + i * 3) (rowV enc (g ++ L))) = [AV.v (Value.int IntKind.i64 ((List.take 3 (List.drop (g.length * 3 + i * 3) (rowV enc (g ++ L)))).getD 0 (AV.v (Value.tuple (Array.mk [])))).intOf), AV.v (Value.int IntKind.i64 ((List.take 3 (List.drop (g.length * 3 + i * 3) (rowV enc (g ++ L)))).getD 1 (AV.v (Value.tuple (Array.mk [])))).intOf), AV.v (Value.int IntKind.i64 ((List.take 3 (List.drop (g.length * 3 + i * 3) (rowV enc (g ++ L)))).getD 2 (AV.v (Value.tuple (Array.mk [])))).intOf)])).a ((Cnd.p (Wk (AV.agg [AV.v (Value.int IntKind.i64 ((List.take 3 (List.drop (g.length * 3 + i * 3) (rowV enc (g ++ L)))).getD 0 (AV.v (Value.tuple (Array.mk [])))).intOf), AV.v (Value.int IntKind.i64 ((List.take 3 (List.drop (g.length * 3 + i * 3) (rowV enc (g ++ L)))).getD 1 (AV.v (Value.tuple (Array.mk [])))).intOf), AV.v (Value.int IntKind.i64 ((List.take 3 (List.drop (g.length * 3 + i * 3) (rowV enc (g ++ L)))).getD 2 (AV.v (Value.tuple (Array.mk [])))).intOf)]) (AV.agg [AV.v (Value.int IntKind.i64 y.a), AV.v (Value.int IntKind.i64 y.b), AV.v (Value.int IntKind.i64 y.c)]))).a Cnd.t))).a (((Cnd.p (true = true)).a ((Cnd.p (true = true)).a ((Cnd.p (true = true)).a ((Cnd.p (true = true)).a ((Cnd.p ((0 + out.length * 3).ble (rowV enc out).length = true)).a ((Cnd.p (((out.length + 1) * 24).ble 140737488355328 = true)).a ((Cnd.p ((out.length + 1).ble 9223372036854775807 = true)).a ((Cnd.p ((List.take (out.length * 3) (List.drop 0 (rowV enc out))).length.beq (out.length * 3) = true)).a Cnd.t)))))))).a (((Cnd.p (Wk (AV.v (Value.int IntKind.i64 (IntKind.i64.wrap (Int.ofNat i + Int.ofNat 1)))) (AV.v (Value.int IntKind.i64 (Int.ofNat (i + 1)))))).a Cnd.t).a Cnd.t)))))))) (VT.leaf (AX.exit 0, [AV.slice 0 (g.length * 3) L.length 3 (Cp.lo L.length), AV.v (Value.int IntKind.i64 q), AV.ptr 3 0, AV.slice 1001 0 out.length 3 (Cp.lo out.length), AV.ptr 2 0, AV.v (Value.bool there), AV.v (Value.int IntKind.i64 (Int.ofNat i))], 40) [some (AO.cells (rowV enc (g ++ L)) 54), some (AO.cells [AV.v (Value.int IntKind.i64 x.a), AV.v (Value.int IntKind.i64 x.b), AV.v (Value.int IntKind.i64 x.c)] 54), some (AO.cells [AV.v (Value.int IntKind.i64 (Int.ofNat 0)), AV.v (Value.int IntKind.i64 (Int.ofNat 0)), AV.v (Value.int IntKind.i64 (Int.ofNat 0))] 54), some (AO.cells (rowV enc out) 54), none, none] 1100 Cnd.t) := by kernel_rfl
theorem oLoopRTakeH_eq (g L out : List It) (x y : It) (q : Int) (there b : Bool) (i : Nat) (F : HP) : wLoop [] (hRTake i y true) [] default fRTake (loopN fRTake 4) (tms 0 40 (aRTake g L out q there i)) (oRTake g L out x) [0, 2, 3, 1001, 1100, 1101] [0, 1, 5, 7, 8, 9, 10] F = VT.ite (decide (Int.ofNat i < ↑L.length)) (VT.leaf (AX.normal, [AV.slice 0 (g.length * 3) L.length 3 (Cp.lo L.length), AV.v (Value.int IntKind.i64 q), AV.ptr 3 0, AV.slice 1001 0 out.length 3 (Cp.lo out.length), AV.ptr 2 0, AV.v (Value.bool true), AV.v (Value.int IntKind.i64 (Int.ofNat (i + 1)))], 40) [some (AO.cells (rowV enc (g ++ L)) 54), some (AO.cells [AV.v (Value.int IntKind.i64 y.a), AV.v (Value.int IntKind.i64 y.b), AV.v (Value.int IntKind.i64 y.c)] 54), some (AO.cells [AV.v (Value.int IntKind.i64 (Int.ofNat 0)), AV.v (Value.int IntKind.i64 (Int.ofNat 0)), AV.v (Value.int IntKind.i64 (Int.ofNat 0))] 54), some (AO.cells (rowV enc out) 54), none, none] 1100 (((Cnd.p (i.blt L.length = true)).a Cnd.t).a (((Cnd.p ((g.length * 3 + i * 3 + 1).blt (rowV enc (g ++ L)).length = true)).a ((Cnd.p ((rowV enc (g ++ L)).getD (g.length * 3 + i * 3 + 1) (AV.v (Value.tuple (Array.mk []))) = AV.v (Value.int IntKind.i64 ((rowV enc (g ++ L)).getD (g.length * 3 + i * 3 + 1) (AV.v (Value.tuple (Array.mk [])))).intOf))).a ((Cnd.p (Wk (AV.v (Value.int IntKind.i64 ((rowV enc (g ++ L)).getD (g.length * 3 + i * 3 + 1) (AV.v (Value.tuple (Array.mk [])))).intOf)) (AV.v (Value.int IntKind.i64 y.b)))).a Cnd.t))).a (((Cnd.p (Wk (AV.v (Value.bool (y.b == q))) (AV.lit true))).a Cnd.t).a (((Cnd.p (i.blt L.length = true)).a Cnd.t).a (((Cnd.p ((List.take 3 (List.drop (g.length * 3 + i * 3) (rowV enc (g ++ L)))).length.beq 3 = true)).a ((Cnd.p (List.take 3 (List.drop (g.length * 3 + i * 3) (rowV enc (g ++ L))) = [AV.v (Value.int IntKind.i64 ((List.take 3 (List.drop (g.length * 3 + i * 3) (rowV enc (g ++ L)))).getD 0 (AV.v (Value.tuple (Array.mk [])))).intOf), AV.v (Value.int IntKind.i64 ((List.take 3 (List.drop (g.length * 3 + i * 3) (rowV enc (g ++ L)))).getD 1 (AV.v (Value.tuple (Array.mk [])))).intOf), AV.v (Value.int IntKind.i64 ((List.take 3 (List.drop (g.length * 3 + i * 3) (rowV enc (g ++ L)))).getD 2 (AV.v (Value.tuple (Array.mk [])))).intOf)])).a ((Cnd.p (Wk (AV.agg [AV.v (Value.int IntKind.i64 ((List.take 3 (List.drop (g.length * 3 + i * 3) (rowV enc (g ++ L)))).getD 0 (AV.v (Value.tuple (Array.mk [])))).intOf), AV.v (Value.int IntKind.i64 ((List.take 3 (List.drop (g.length * 3 + i * 3) (rowV enc (g ++ L)))).getD 1 (AV.v (Value.tuple (Array.mk [])))).intOf), AV.v (Value.int IntKind.i64 ((List.take 3 (List.drop (g.length * 3 + i * 3) (rowV enc (g ++ L)))).getD 2 (AV.v (Value.tuple (Array.mk [])))).intOf)]) (AV.agg [AV.v (Value.int IntKind.i64 y.a), AV.v (Value.int IntKind.i64 y.b), AV.v (Value.int IntKind.i64 y.c)]))).a Cnd.t))).a (((Cnd.p (true = true)).a Cnd.t).a (((Cnd.p (Wk (AV.v (Value.int IntKind.i64 (IntKind.i64.wrap (Int.ofNat i + Int.ofNat 1)))) (AV.v (Value.int IntKind.i64 (Int.ofNat (i + 1)))))).a Cnd.t).a Cnd.t)))))))) (VT.leaf (AX.exit 0, [AV.slice 0 (g.length * 3) L.length 3 (Cp.lo L.length), AV.v (Value.int IntKind.i64 q), AV.ptr 3 0, AV.slice 1001 0 out.length 3 (Cp.lo out.length), AV.ptr 2 0, AV.v (Value.bool there), AV.v (Value.int IntKind.i64 (Int.ofNat i))], 40) [some (AO.cells (rowV enc (g ++ L)) 54), some (AO.cells [AV.v (Value.int IntKind.i64 x.a), AV.v (Value.int IntKind.i64 x.b), AV.v (Value.int IntKind.i64 x.c)] 54), some (AO.cells [AV.v (Value.int IntKind.i64 (Int.ofNat 0)), AV.v (Value.int IntKind.i64 (Int.ofNat 0)), AV.v (Value.int IntKind.i64 (Int.ofNat 0))] 54), some (AO.cells (rowV enc out) 54), none, none] 1100 Cnd.t) := by kernel_rfl
end
end Go.Proofs.Ytcpijmlaglcblaa.Rk

/- heap.Remove: a run, and the plain law of it. -/
set_option linter.unusedVariables false
set_option linter.unusedSimpArgs false
set_option maxRecDepth 100000
namespace Go.Proofs.Ytcpijmlaglcblaa.Rk
open Go Go.RowKit Go.Proofs.Ytcpijmlaglcblaa.Eng
/-- The pile with the i-th item at its end. -/
def remD (s : Ps) (i : Nat) : Ps := if s.xs.length - 1 = i then s else if i < (downS (swapS s i (s.xs.length - 1)) i (s.xs.length - 1)).2 then (downS (swapS s i (s.xs.length - 1)) i (s.xs.length - 1)).1 else upS (downS (swapS s i (s.xs.length - 1)) i (s.xs.length - 1)).1 i
def remV (s : Ps) (i : Nat) : It := at' (remD s i) ((remD s i).xs.length - 1)
def remS (s : Ps) (i : Nat) : Ps := popS (remD s i)
theorem hrem_tri (s : Ps) (i : Nat) (hP : PI s) (hi : i < s.xs.length) : Tri Try.prog default fHRem [hI, iv (Int.ofNat i)] [(0, pO s)] (itF (remV s i)) [(0, pO (remS s i))] := by
  refine tri_run (con := conH) (hints := hintL [(fHRem, 1, 2, hv (iv (Int.ofNat (s.xs.length - 1))))]) (lc := []) [0] rfl conH_ok noL fun F => ?_
  rw [oHRem_eq]
  have hb := hP.big
  have hw : IntKind.i64.wrap (Int.ofNat s.xs.length - Int.ofNat 1) = Int.ofNat (s.xs.length - 1) := by
    rw [IntWalk.i64_in _ (by simp only [Int.ofNat_eq_natCast]; omega)]; simp only [Int.ofNat_eq_natCast]; omega
  have hne : (Int.ofNat (s.xs.length - 1) != Int.ofNat i) = !decide (s.xs.length - 1 = i) := by
    by_cases h : s.xs.length - 1 = i
    · rw [h]; simp
    · simp only [h, decide_false, Bool.not_false]; apply bne_iff_ne.2; simp only [Int.ofNat_eq_natCast]; omega
  rw [hne]
  have hsl := swap_len s i (s.xs.length - 1)
  obtain ⟨hd1, hd2⟩ := downS_keeps (s.xs.length - 1) _ (swapS s i (s.xs.length - 1)) i (Nat.le_refl _) (hP.swap i (s.xs.length - 1))
  obtain ⟨hu1, hu2⟩ := upS_keeps (downS (swapS s i (s.xs.length - 1)) i (s.xs.length - 1)).1 i hd1
  refine ⟨fun h1 => ⟨fun h2 => ⟨?_, ?_⟩, fun h2 => ⟨?_, ?_⟩⟩, fun h1 => ⟨?_, ?_⟩⟩
  · simp only [Cnd.holds]
    and_intros
    all_goals first
      | exact trivial
      | exact VW.refl _
      | exact OW.refl _
      | exact wk_int hw
      | exact hP.m
      | exact hP.swap _ _
      | exact hd1
      | rfl
      | exact hi
      | exact Int.natCast_nonneg _
      | (show s.xs.length - 1 < _; omega)
      | (show s.xs.length - 1 ≤ (swapS s i (s.xs.length - 1)).xs.length; omega)
      | (show i ≤ (swapS s i (s.xs.length - 1)).xs.length; omega)
      | (show i < (downS (swapS s i (s.xs.length - 1)) i (s.xs.length - 1)).1.xs.length; omega)
      | (show 0 < (upS (downS (swapS s i (s.xs.length - 1)) i (s.xs.length - 1)).1 i).xs.length; omega)
      | (show (upS (downS (swapS s i (s.xs.length - 1)) i (s.xs.length - 1)).1 i).xs.length ≤ _; omega)
  · have e1 : ¬ s.xs.length - 1 = i := by simpa using h1
    have h2' : (!decide (i < (downS (swapS s i (s.xs.length - 1)) i (s.xs.length - 1)).2)) = true := h2
    have e2 : ¬ i < (downS (swapS s i (s.xs.length - 1)) i (s.xs.length - 1)).2 := by simpa using h2'
    have e : remD s i = upS (downS (swapS s i (s.xs.length - 1)) i (s.xs.length - 1)).1 i := by rw [remD, if_neg e1, if_neg e2]
    rw [remV, remS, e]
    exact fits_one (VW.refl _) ⟨_, rfl, OW.refl _⟩
  · simp only [Cnd.holds]
    and_intros
    all_goals first
      | exact trivial
      | exact VW.refl _
      | exact OW.refl _
      | exact wk_int hw
      | exact hP.m
      | exact hP.swap _ _
      | rfl
      | exact hi
      | exact Int.natCast_nonneg _
      | (show s.xs.length - 1 < _; omega)
      | (show s.xs.length - 1 ≤ (swapS s i (s.xs.length - 1)).xs.length; omega)
      | (show i ≤ (swapS s i (s.xs.length - 1)).xs.length; omega)
      | (show 0 < (downS (swapS s i (s.xs.length - 1)) i (s.xs.length - 1)).1.xs.length; omega)
      | (show (downS (swapS s i (s.xs.length - 1)) i (s.xs.length - 1)).1.xs.length ≤ _; omega)
  · have e1 : ¬ s.xs.length - 1 = i := by simpa using h1
    have h2' : (!decide (i < (downS (swapS s i (s.xs.length - 1)) i (s.xs.length - 1)).2)) = false := h2
    have e2 : i < (downS (swapS s i (s.xs.length - 1)) i (s.xs.length - 1)).2 := by simpa using h2'
    have e : remD s i = (downS (swapS s i (s.xs.length - 1)) i (s.xs.length - 1)).1 := by rw [remD, if_neg e1, if_pos e2]
    rw [remV, remS, e]
    exact fits_one (VW.refl _) ⟨_, rfl, OW.refl _⟩
  · simp only [Cnd.holds]
    and_intros
    all_goals first
      | exact trivial
      | exact VW.refl _
      | exact OW.refl _
      | exact wk_int hw
      | omega
  · have e1 : s.xs.length - 1 = i := by simpa using h1
    have e : remD s i = s := by rw [remD, if_pos e1]
    rw [remV, remS, e]
    exact fits_one (VW.refl _) ⟨_, rfl, OW.refl _⟩
/-! The plain law. -/
theorem up_heapN (n : Nat) : ∀ (j : Nat) (s : Ps), j < n → n ≤ s.xs.length → HeapUp (at' s) n j → HeapTo (at' (upS s j)) n ∧ (upS s j).xs.Perm s.xs ∧ ∀ k, n ≤ k → at' (upS s j) k = at' s k := by
  intro j
  induction j using Nat.strongRecOn with
  | ind j ih =>
    intro s hj hn h
    rw [upS]
    split
    · rename_i h0; exact ⟨heapUp_done h (.inl h0), List.Perm.refl _, fun _ _ => rfl⟩
    · split
      · rename_i h0 ha
        have hp : (j - 1) / 2 < s.xs.length := by omega
        have hf : at' (swapS s ((j - 1) / 2) j) = swapF (at' s) ((j - 1) / 2) j := funext fun k => at_swap s _ _ k hp (by omega)
        have h2 := heapUp_step h (by omega) hj ha
        have := ih ((j - 1) / 2) (by omega) (swapS s ((j - 1) / 2) j) (by omega) (by rw [swap_len]; exact hn) (by rw [hf]; exact h2)
        refine ⟨this.1, this.2.1.trans (swap_perm s _ _ hp (by omega)), fun k hk => ?_⟩
        rw [this.2.2 k hk, hf, swapF, if_neg (by omega), if_neg (by omega)]
      · rename_i h0 ha
        exact ⟨heapUp_done h (.inr (by rw [nb]; simpa using ha)), List.Perm.refl _, fun _ _ => rfl⟩
/-- A heap but for what hangs on i, above and below. -/
def HeapHole (f : Nat → It) (n i : Nat) : Prop := (∀ c, 0 < c → c < n → c ≠ i → (c - 1) / 2 ≠ i → nb (f ((c - 1) / 2)) (f c)) ∧ ∀ c, 0 < c → c < n → (c - 1) / 2 = i → 0 < i → nb (f ((i - 1) / 2)) (f c)
theorem hole_step {f : Nat → It} {n i j : Nat} (h : HeapHole f n i) (hji : (j - 1) / 2 = i) (hj0 : 0 < j) (hjn : j < n) (ha : ahead (f j) (f i) = true) (hs : ∀ c, 0 < c → c < n → (c - 1) / 2 = i → nb (f j) (f c)) (hcj : ∀ c, 0 < c → c < n → (c - 1) / 2 = j → nb (f j) (f c)) : HeapDown (swapF f i j) n j := by
  have hij : i ≠ j := by omega
  have e1 : swapF f i j j = f i := if_pos rfl
  have e2 : swapF f i j i = f j := by rw [swapF, if_neg hij, if_pos rfl]
  have e3 : ∀ k, k ≠ j → k ≠ i → swapF f i j k = f k := fun k h1 h2 => by rw [swapF, if_neg h1, if_neg h2]
  refine ⟨fun c hc hcn hne => ?_, fun c hc hcn hpc _ => ?_⟩
  · by_cases h1 : (c - 1) / 2 = i
    · rw [h1, e2]
      by_cases hcj' : c = j
      · rw [hcj', e1]; exact nb_of_ahead ha
      · rw [e3 c hcj' (by omega)]; exact hs c hc hcn h1
    · rw [e3 _ hne h1]
      by_cases hci : c = i
      · rw [hci, e2]
        exact h.2 j hj0 hjn hji (by omega)
      · rw [e3 c (fun e => h1 (e ▸ hji)) hci]; exact h.1 c hc hcn hci h1
  · rw [hji, e2, e3 c (by omega) (by omega)]
    exact hcj c hc hcn hpc
theorem hole_down (n : Nat) (s : Ps) (i : Nat) (hn : n ≤ s.xs.length) (hin : i < n) (h : HeapHole (at' s) n i) :
    (i < (downS s i n).2 → HeapTo (at' (downS s i n).1) n) ∧ (¬ i < (downS s i n).2 → (downS s i n).1 = s ∧ HeapUp (at' s) n i) ∧ (downS s i n).1.xs.Perm s.xs ∧ ∀ k, n ≤ k → at' (downS s i n).1 k = at' s k := by
  have snd_ge : ∀ (d : Nat) (s : Ps) (i : Nat), n - i ≤ d → i ≤ (downS s i n).2 := by
    intro d
    induction d with
    | zero => intro s i hd; rw [downS, dif_pos (by omega)]; exact Nat.le_refl _
    | succ d ih =>
      intro s i hd
      rw [downS]
      split
      · exact Nat.le_refl _
      · have hg := downJ_gt s i n
        split
        · exact Nat.le_trans (Nat.le_of_lt hg) (ih _ _ (by omega))
        · exact Nat.le_refl _
  by_cases hlt : n ≤ 2 * i + 1
  · have e : downS s i n = (s, i) := by rw [downS, dif_pos hlt]
    rw [e]
    refine ⟨fun hh => absurd hh (Nat.lt_irrefl _), fun _ => ⟨rfl, fun c hc hcn hne => h.1 c hc hcn hne (by omega), h.2⟩, List.Perm.refl _, fun _ _ => rfl⟩
  · have hjn := downJ_lt s i n hlt
    have hji : (downJ s i n - 1) / 2 = i := by unfold downJ; split <;> omega
    have hj0 : 0 < downJ s i n := by unfold downJ; split <;> omega
    have hg := downJ_gt s i n
    have hmin : ∀ c, 0 < c → c < n → (c - 1) / 2 = i → nb (at' s (downJ s i n)) (at' s c) := by
      intro c hc hcn e
      have hcase : c = 2 * i + 1 ∨ c = 2 * i + 2 := by omega
      unfold downJ
      split
      · rename_i hh
        rcases hcase with rfl | rfl
        · exact nb_of_ahead hh.2
        · exact ahead_irrefl _
      · rename_i hh
        rcases hcase with rfl | rfl
        · exact ahead_irrefl _
        · cases hb : ahead (at' s (2 * i + 2)) (at' s (2 * i + 1)) with
          | false => exact hb
          | true => exact absurd ⟨hcn, hb⟩ hh
    by_cases ha : ahead (at' s (downJ s i n)) (at' s i) = true
    · have e : downS s i n = downS (swapS s i (downJ s i n)) (downJ s i n) n := by conv => lhs; rw [downS, dif_neg hlt, if_pos ha]
      rw [e]
      have hi2 : i < s.xs.length := by omega
      have hj2 : downJ s i n < s.xs.length := by omega
      have hf : at' (swapS s i (downJ s i n)) = swapF (at' s) i (downJ s i n) := funext fun k => at_swap s _ _ k hi2 hj2
      have hd := down_heap n _ (swapS s i (downJ s i n)) (downJ s i n) (Nat.le_refl _) (by rw [swap_len]; exact hn) (by
        rw [hf]
        refine hole_step h hji hj0 hjn ha hmin fun c hc hcn hp => ?_
        have := h.1 c hc hcn (by omega) (by omega)
        rwa [hp] at this)
      have hge := snd_ge _ (swapS s i (downJ s i n)) (downJ s i n) (Nat.le_refl _)
      refine ⟨fun _ => hd.1, fun hh => absurd (Nat.lt_of_lt_of_le hg hge) hh, hd.2.1.trans (swap_perm s _ _ hi2 hj2), fun k hk => ?_⟩
      rw [hd.2.2 k hk, hf, swapF, if_neg (by omega), if_neg (by omega)]
    · have e : downS s i n = (s, i) := by rw [downS, dif_neg hlt, if_neg ha]
      rw [e]
      have ha' : nb (at' s i) (at' s (downJ s i n)) := by simpa [nb] using ha
      refine ⟨fun hh => absurd hh (Nat.lt_irrefl _), fun _ => ⟨rfl, fun c hc hcn hne => ?_, h.2⟩, List.Perm.refl _, fun _ _ => rfl⟩
      by_cases hp : (c - 1) / 2 = i
      · rw [hp]; exact nb_trans ha' (hmin c hc hcn hp)
      · exact h.1 c hc hcn hne hp
/-- What popS does, where the last item is known. -/
theorem pop_abs {s : Ps} {n : Nat} {x : It} {L : List It} (hP : PI s) (hm : MapOK s) (hn : s.xs.length = n + 1) (hh : HeapTo (at' s) n) (hx : at' s n = x) (hperm : (x :: L).Perm s.xs) (hs : Sortd L) : AbsS (popS s) L := by
  have hpl : (popS s).xs.length = n := by
    show s.xs.dropLast.length = _
    rw [List.length_dropLast, hn]; rfl
  have hlast : s.xs.length - 1 = n := by omega
  have hat : ∀ k, k < n → at' (popS s) k = at' s k := fun k hk => dropLast_at _ _ (by omega)
  refine ⟨⟨hP.m.mdel _, by have := hP.big; rw [hpl]; omega⟩, ?_, ?_, ?_, hs⟩
  · intro k v
    show mlook k (mdel s.m (at' s (s.xs.length - 1)).b) = some v ↔ _
    rw [mlook_mdel hP.m, hpl, hlast]
    by_cases hk : k = (at' s n).b
    · rw [if_pos hk]
      constructor
      · intro e; cases e
      · rintro ⟨i, hi, hb, _⟩
        rw [hat i hi] at hb
        have := hm.inj (i := i) (j := n) (by omega) (by omega) (hb.trans hk)
        omega
    · rw [if_neg hk, hm k v, hn]
      constructor
      · rintro ⟨i, hi, hb, hv⟩
        have hne : i ≠ n := fun e => hk (by rw [← hb, e])
        exact ⟨i, by omega, by rw [hat i (by omega)]; exact hb, hv⟩
      · rintro ⟨i, hi, hb, hv⟩
        exact ⟨i, by omega, by rw [← hat i hi]; exact hb, hv⟩
  · rw [hpl]
    intro c hc hcn
    rw [hat c hcn, hat _ (by omega)]
    exact hh c hc hcn
  · have hne : s.xs ≠ [] := fun e => by rw [e] at hn; cases hn
    have hl : s.xs.getLast hne = x := by
      rw [List.getLast_eq_getElem, ← hx, at_get _ _ (by omega)]
      congr 1
    have hsplit : s.xs = s.xs.dropLast ++ [x] := by rw [← hl]; exact (List.dropLast_concat_getLast hne).symm
    rw [hsplit] at hperm
    have := hperm.trans (List.perm_append_comm (l₁ := s.xs.dropLast) (l₂ := [x]))
    exact (List.perm_cons x).1 this
theorem AbsS.rem {s : Ps} {L L' : List It} {i : Nat} (h : AbsS s L) (hi : i < s.xs.length) (hL : L.Perm (at' s i :: L')) (hs : Sortd L') : remV s i = at' s i ∧ AbsS (remS s i) L' := by
  have hn : s.xs.length = (s.xs.length - 1) + 1 := by omega
  by_cases h1 : s.xs.length - 1 = i
  · have e : remD s i = s := by rw [remD, if_pos h1]
    refine ⟨by rw [remV, e, h1], ?_⟩
    rw [remS, e]
    exact pop_abs h.pi h.map hn (fun c hc hcn => h.heap c hc (by omega)) (by rw [h1]) (hL.symm.trans h.perm) hs
  · have hlast : s.xs.length - 1 < s.xs.length := by omega
    have hsl := swap_len s i (s.xs.length - 1)
    have hf : at' (swapS s i (s.xs.length - 1)) = swapF (at' s) i (s.xs.length - 1) := funext fun k => at_swap s _ _ k hi hlast
    have hhole : HeapHole (at' (swapS s i (s.xs.length - 1))) (s.xs.length - 1) i := by
      rw [hf]
      refine ⟨fun c hc hcn hci hpi => ?_, fun c hc hcn hp h0 => ?_⟩
      · rw [swapF, if_neg (by omega), if_neg hpi, swapF, if_neg (by omega), if_neg hci]
        exact h.heap c hc (by omega)
      · rw [swapF, if_neg (by omega), if_neg (by omega), swapF, if_neg (by omega), if_neg (by omega)]
        have a1 := h.heap i h0 hi
        have a2 := h.heap c hc (by omega)
        rw [hp] at a2
        exact nb_trans a1 a2
    obtain ⟨q1, q2, q3, q4⟩ := hole_down (s.xs.length - 1) (swapS s i (s.xs.length - 1)) i (by omega) (by omega) hhole
    have hend : at' (swapS s i (s.xs.length - 1)) (s.xs.length - 1) = at' s i := by rw [hf, swapF, if_pos rfl]
    obtain ⟨k1, k2⟩ := downS_keeps (s.xs.length - 1) _ (swapS s i (s.xs.length - 1)) i (Nat.le_refl _) (h.pi.swap i (s.xs.length - 1))
    have hdm := down_map (s.xs.length - 1) _ (swapS s i (s.xs.length - 1)) i (Nat.le_refl _) (by omega) (h.map.swap hi hlast)
    have hpd : (downS (swapS s i (s.xs.length - 1)) i (s.xs.length - 1)).1.xs.Perm s.xs := q3.trans (swap_perm s _ _ hi hlast)
    by_cases h2 : i < (downS (swapS s i (s.xs.length - 1)) i (s.xs.length - 1)).2
    · have e : remD s i = (downS (swapS s i (s.xs.length - 1)) i (s.xs.length - 1)).1 := by rw [remD, if_neg h1, if_pos h2]
      have hl : (remD s i).xs.length = s.xs.length := by rw [e, k2, hsl]
      have hv : at' (remD s i) (s.xs.length - 1) = at' s i := by rw [e, q4 _ (Nat.le_refl _), hend]
      refine ⟨by rw [remV, hl]; exact hv, ?_⟩
      rw [remS]
      refine pop_abs (n := s.xs.length - 1) (by rw [e]; exact k1) (by rw [e]; exact hdm) (by rw [hl]; exact hn) (by rw [e]; exact q1 h2) hv ?_ hs
      rw [e]; exact (hL.symm.trans h.perm).trans hpd.symm
    · obtain ⟨e0, hup⟩ := q2 h2
      have e : remD s i = upS (downS (swapS s i (s.xs.length - 1)) i (s.xs.length - 1)).1 i := by rw [remD, if_neg h1, if_neg h2]
      rw [e0] at k1 k2 hdm hpd
      obtain ⟨u1, u2, u3⟩ := up_heapN (s.xs.length - 1) i (swapS s i (s.xs.length - 1)) (by omega) (by omega) hup
      obtain ⟨v1, v2⟩ := upS_keeps (swapS s i (s.xs.length - 1)) i k1
      have hl : (remD s i).xs.length = s.xs.length := by rw [e, e0, v2, hsl]
      have hv : at' (remD s i) (s.xs.length - 1) = at' s i := by rw [e, e0, u3 _ (Nat.le_refl _), hend]
      refine ⟨by rw [remV, hl]; exact hv, ?_⟩
      rw [remS]
      refine pop_abs (n := s.xs.length - 1) (by rw [e, e0]; exact v1) (by rw [e, e0]; exact up_map _ _ (by omega) hdm) (by rw [hl]; exact hn) (by rw [e, e0]; exact u1) hv ?_ hs
      rw [e, e0]; exact (hL.symm.trans h.perm).trans (u2.trans hpd).symm
end Go.Proofs.Ytcpijmlaglcblaa.Rk

/- A Line's Take and Peek: runs. -/
set_option linter.unusedVariables false
set_option linter.unusedSimpArgs false
set_option maxRecDepth 100000
namespace Go.Proofs.Ytcpijmlaglcblaa.Rk
open Go Go.RowKit Go.Proofs.Ytcpijmlaglcblaa.Eng
noncomputable section
/-- heap.Remove where the pile lies open. -/
def cHRemO (s : Ps) : List AV → Option (AP AV) := fun args => match args with
  | [.iface t (.ptr i 0), .v (.int .i64 j)] => some (.need (t = 53 ∧ PI s ∧ 0 ≤ j ∧ j.toNat < s.xs.length) (.read i fun o => match o with
    | .cells [.slice r _ _ _ _, .map m] _ => useC (openP i r m) [hI, iv j] args (pL s) (.leaf .ret [itF (remV s j.toNat)] [(0, pO (remS s j.toNat))])
    | _ => .fail "rem"))
  | _ => none
def hTake (s : Ps) (k : Int) : ClaimT := hintL [(fLTake, 1, 6, hv (.tuple [iv (lookD k s.m), .v (.bool (mlook k s.m).isSome)]))]
def hTake0 : ClaimT := hintL [(fLTake, 1, 6, hv (.tuple [iv 0, .lit false]))]
theorem oLTake_eq (s : Ps) (k : Int) (F : HP) : oRun [(fHRem, cHRemO s)] (hTake s k) [] fLTake [.ptr 0 0, iv k] (pL s) [0, 1001, 1002] F = VT.ite (!(mlook k s.m).isSome) (VT.leaf (AV.tuple [AV.agg [AV.v (Value.int IntKind.i64 (Int.ofNat 0)), AV.v (Value.int IntKind.i64 (Int.ofNat 0)), AV.v (Value.int IntKind.i64 (Int.ofNat 0))], AV.v (Value.bool false)]) [some (AO.cells [AV.slice 1001 0 s.xs.length 3 (Cp.lo (s.xs.length + s.g.length)), AV.map 1002] 100), some (AO.cells (rowV enc (s.xs ++ s.g)) 54), some (AO.map (mE iv s.m) s.ck)] 1101 (((Cnd.p (true = true)).a Cnd.t).a (((Cnd.p (findKey Try.prog (env0 [(24, cHRemO s)] (hTake s k) [] F) 3 (AV.v (Value.int IntKind.i64 k)) (mE iv s.m) 0 = AP.ret (findS (AV.v (Value.int IntKind.i64 k)) (mE iv s.m) 0))).a ((Cnd.p (foundX (findS (AV.v (Value.int IntKind.i64 k)) (mE iv s.m) 0) (Value.int IntKind.i64 (Int.ofNat 0)) = AV.v (Value.int IntKind.i64 (foundX (findS (AV.v (Value.int IntKind.i64 k)) (mE iv s.m) 0) (Value.int IntKind.i64 (Int.ofNat 0))).intOf))).a ((Cnd.p (Wk (AV.tuple [AV.v (Value.int IntKind.i64 (foundX (findS (AV.v (Value.int IntKind.i64 k)) (mE iv s.m) 0) (Value.int IntKind.i64 (Int.ofNat 0))).intOf), AV.v (Value.bool (findS (AV.v (Value.int IntKind.i64 k)) (mE iv s.m) 0).isSome)]) (AV.tuple [AV.v (Value.int IntKind.i64 (lookD k s.m)), AV.v (Value.bool (mlook k s.m).isSome)]))).a Cnd.t))).a (((Cnd.p (true = true)).a Cnd.t).a ((Cnd.p (true = true)).a ((Cnd.p ([AV.v (Value.int IntKind.i64 (Int.ofNat 0)), AV.v (Value.int IntKind.i64 (Int.ofNat 0)), AV.v (Value.int IntKind.i64 (Int.ofNat 0))] = [AV.v (Value.int IntKind.i64 (Int.ofNat 0)), AV.v (Value.int IntKind.i64 (Int.ofNat 0)), AV.v (Value.int IntKind.i64 (Int.ofNat 0))])).a Cnd.t)))))) (VT.leaf (AV.tuple [AV.agg [AV.v (Value.int IntKind.i64 (remV s (lookD k s.m).toNat).a), AV.v (Value.int IntKind.i64 (remV s (lookD k s.m).toNat).b), AV.v (Value.int IntKind.i64 (remV s (lookD k s.m).toNat).c)], AV.v (Value.bool true)]) [some (AO.own (Md.pile (remS s (lookD k s.m).toNat)) (pH (remS s (lookD k s.m).toNat))), none, none] 1102 (((Cnd.p (true = true)).a Cnd.t).a (((Cnd.p (findKey Try.prog (env0 [(24, cHRemO s)] (hTake s k) [] F) 3 (AV.v (Value.int IntKind.i64 k)) (mE iv s.m) 0 = AP.ret (findS (AV.v (Value.int IntKind.i64 k)) (mE iv s.m) 0))).a ((Cnd.p (foundX (findS (AV.v (Value.int IntKind.i64 k)) (mE iv s.m) 0) (Value.int IntKind.i64 (Int.ofNat 0)) = AV.v (Value.int IntKind.i64 (foundX (findS (AV.v (Value.int IntKind.i64 k)) (mE iv s.m) 0) (Value.int IntKind.i64 (Int.ofNat 0))).intOf))).a ((Cnd.p (Wk (AV.tuple [AV.v (Value.int IntKind.i64 (foundX (findS (AV.v (Value.int IntKind.i64 k)) (mE iv s.m) 0) (Value.int IntKind.i64 (Int.ofNat 0))).intOf), AV.v (Value.bool (findS (AV.v (Value.int IntKind.i64 k)) (mE iv s.m) 0).isSome)]) (AV.tuple [AV.v (Value.int IntKind.i64 (lookD k s.m)), AV.v (Value.bool (mlook k s.m).isSome)]))).a Cnd.t))).a (((Cnd.p (53 = 53 ∧ PI s ∧ Int.ofNat 0 ≤ lookD k s.m ∧ (lookD k s.m).toNat < s.xs.length)).a ((Cnd.p (VW [AV.iface 53 (AV.ptr 0 0), AV.v (Value.int IntKind.i64 (lookD k s.m))] [AV.iface 53 (AV.ptr 0 0), AV.v (Value.int IntKind.i64 (lookD k s.m))])).a ((Cnd.p (OW (AO.cells [AV.slice 1001 0 s.xs.length 3 (Cp.lo (s.xs.length + s.g.length)), AV.map 1002] 100) (AO.cells [AV.slice 1001 0 s.xs.length 3 (Cp.lo (s.xs.length + s.g.length)), AV.map 1002] 100))).a ((Cnd.p (OW (AO.cells (rowV enc (s.xs ++ s.g)) 54) (AO.cells (AV.rens (openP 0 1001 1002) (rowV enc (s.xs ++ s.g))) 54))).a ((Cnd.p (OW (AO.map (mE iv s.m) s.ck) (AO.map (renE (openP 0 1001 1002) (mE iv s.m)) s.ck))).a Cnd.t))))).a (((Cnd.p (true = true)).a Cnd.t).a (((Cnd.p (true = true)).a ((Cnd.p ([AV.v (Value.int IntKind.i64 (remV s (lookD k s.m).toNat).a), AV.v (Value.int IntKind.i64 (remV s (lookD k s.m).toNat).b), AV.v (Value.int IntKind.i64 (remV s (lookD k s.m).toNat).c)] = [AV.v (Value.int IntKind.i64 (remV s (lookD k s.m).toNat).a), AV.v (Value.int IntKind.i64 (remV s (lookD k s.m).toNat).b), AV.v (Value.int IntKind.i64 (remV s (lookD k s.m).toNat).c)])).a Cnd.t)).a (((Cnd.p (true = true)).a Cnd.t).a ((Cnd.p (true = true)).a ((Cnd.p ([AV.v (Value.int IntKind.i64 (remV s (lookD k s.m).toNat).a), AV.v (Value.int IntKind.i64 (remV s (lookD k s.m).toNat).b), AV.v (Value.int IntKind.i64 (remV s (lookD k s.m).toNat).c)] = [AV.v (Value.int IntKind.i64 (remV s (lookD k s.m).toNat).a), AV.v (Value.int IntKind.i64 (remV s (lookD k s.m).toNat).b), AV.v (Value.int IntKind.i64 (remV s (lookD k s.m).toNat).c)])).a Cnd.t))))))))) := by kernel_rfl
theorem oLTake0_eq (k : Int) (F : HP) : oRun [] hTake0 [] fLTake [.ptr 0 0, iv k] pL0 [0, 1002] F = VT.ite true (VT.leaf (AV.tuple [AV.agg [AV.v (Value.int IntKind.i64 (Int.ofNat 0)), AV.v (Value.int IntKind.i64 (Int.ofNat 0)), AV.v (Value.int IntKind.i64 (Int.ofNat 0))], AV.v (Value.bool false)]) [some (AO.cells [AV.v (Value.slice none 0 0), AV.map 1002] 100), some (AO.map [] 0)] 1101 (((Cnd.p (true = true)).a Cnd.t).a (((Cnd.p (findKey Try.prog (env0 [] hTake0 [] F) 3 (AV.v (Value.int IntKind.i64 k)) [] 0 = AP.ret none)).a ((Cnd.p (AV.v (Value.int IntKind.i64 (Int.ofNat 0)) = AV.v (Value.int IntKind.i64 (Int.ofNat 0)))).a ((Cnd.p (Wk (AV.tuple [AV.v (Value.int IntKind.i64 (Int.ofNat 0)), AV.v (Value.bool false)]) (AV.tuple [AV.v (Value.int IntKind.i64 (Int.ofNat 0)), AV.lit false]))).a Cnd.t))).a (((Cnd.p (true = true)).a Cnd.t).a ((Cnd.p (true = true)).a ((Cnd.p ([AV.v (Value.int IntKind.i64 (Int.ofNat 0)), AV.v (Value.int IntKind.i64 (Int.ofNat 0)), AV.v (Value.int IntKind.i64 (Int.ofNat 0))] = [AV.v (Value.int IntKind.i64 (Int.ofNat 0)), AV.v (Value.int IntKind.i64 (Int.ofNat 0)), AV.v (Value.int IntKind.i64 (Int.ofNat 0))])).a Cnd.t)))))) (VT.ite true (VT.bad "a number below nought") (VT.bad "a number below nought")) := by kernel_rfl
theorem oLPeek_eq (s : Ps) (F : HP) : oRun [] noHints [] fLPeek [.ptr 0 0] (pL s) [0, 1001, 1002] F = VT.ite (↑s.xs.length == Int.ofNat 0) (VT.leaf (AV.tuple [AV.agg [AV.v (Value.int IntKind.i64 (Int.ofNat 0)), AV.v (Value.int IntKind.i64 (Int.ofNat 0)), AV.v (Value.int IntKind.i64 (Int.ofNat 0))], AV.v (Value.bool false)]) [some (AO.cells [AV.slice 1001 0 s.xs.length 3 (Cp.lo (s.xs.length + s.g.length)), AV.map 1002] 100), some (AO.cells (rowV enc (s.xs ++ s.g)) 54), some (AO.map (mE iv s.m) s.ck)] 1101 (((Cnd.p (true = true)).a Cnd.t).a (((Cnd.p (true = true)).a Cnd.t).a ((Cnd.p (true = true)).a ((Cnd.p ([AV.v (Value.int IntKind.i64 (Int.ofNat 0)), AV.v (Value.int IntKind.i64 (Int.ofNat 0)), AV.v (Value.int IntKind.i64 (Int.ofNat 0))] = [AV.v (Value.int IntKind.i64 (Int.ofNat 0)), AV.v (Value.int IntKind.i64 (Int.ofNat 0)), AV.v (Value.int IntKind.i64 (Int.ofNat 0))])).a Cnd.t))))) (VT.leaf (AV.tuple [AV.agg [AV.v (Value.int IntKind.i64 ((List.take 3 (List.drop 0 (rowV enc (s.xs ++ s.g)))).getD 0 (AV.v (Value.tuple (Array.mk [])))).intOf), AV.v (Value.int IntKind.i64 ((List.take 3 (List.drop 0 (rowV enc (s.xs ++ s.g)))).getD 1 (AV.v (Value.tuple (Array.mk [])))).intOf), AV.v (Value.int IntKind.i64 ((List.take 3 (List.drop 0 (rowV enc (s.xs ++ s.g)))).getD 2 (AV.v (Value.tuple (Array.mk [])))).intOf)], AV.v (Value.bool true)]) [some (AO.cells [AV.slice 1001 0 s.xs.length 3 (Cp.lo (s.xs.length + s.g.length)), AV.map 1002] 100), some (AO.cells (rowV enc (s.xs ++ s.g)) 54), some (AO.map (mE iv s.m) s.ck)] 1101 (((Cnd.p (true = true)).a Cnd.t).a (((Cnd.p (true = true)).a Cnd.t).a (((Cnd.p (Nat.blt 0 s.xs.length = true)).a Cnd.t).a (((Cnd.p ((List.take 3 (List.drop 0 (rowV enc (s.xs ++ s.g)))).length.beq 3 = true)).a ((Cnd.p (List.take 3 (List.drop 0 (rowV enc (s.xs ++ s.g))) = [AV.v (Value.int IntKind.i64 ((List.take 3 (List.drop 0 (rowV enc (s.xs ++ s.g)))).getD 0 (AV.v (Value.tuple (Array.mk [])))).intOf), AV.v (Value.int IntKind.i64 ((List.take 3 (List.drop 0 (rowV enc (s.xs ++ s.g)))).getD 1 (AV.v (Value.tuple (Array.mk [])))).intOf), AV.v (Value.int IntKind.i64 ((List.take 3 (List.drop 0 (rowV enc (s.xs ++ s.g)))).getD 2 (AV.v (Value.tuple (Array.mk [])))).intOf)])).a Cnd.t)).a (((Cnd.p (true = true)).a Cnd.t).a ((Cnd.p (true = true)).a ((Cnd.p ([AV.v (Value.int IntKind.i64 ((List.take 3 (List.drop 0 (rowV enc (s.xs ++ s.g)))).getD 0 (AV.v (Value.tuple (Array.mk [])))).intOf), AV.v (Value.int IntKind.i64 ((List.take 3 (List.drop 0 (rowV enc (s.xs ++ s.g)))).getD 1 (AV.v (Value.tuple (Array.mk [])))).intOf), AV.v (Value.int IntKind.i64 ((List.take 3 (List.drop 0 (rowV enc (s.xs ++ s.g)))).getD 2 (AV.v (Value.tuple (Array.mk [])))).intOf)] = [AV.v (Value.int IntKind.i64 ((List.take 3 (List.drop 0 (rowV enc (s.xs ++ s.g)))).getD 0 (AV.v (Value.tuple (Array.mk [])))).intOf), AV.v (Value.int IntKind.i64 ((List.take 3 (List.drop 0 (rowV enc (s.xs ++ s.g)))).getD 1 (AV.v (Value.tuple (Array.mk [])))).intOf), AV.v (Value.int IntKind.i64 ((List.take 3 (List.drop 0 (rowV enc (s.xs ++ s.g)))).getD 2 (AV.v (Value.tuple (Array.mk [])))).intOf)])).a Cnd.t)))))))) := by kernel_rfl
theorem oLPeek0_eq (F : HP) : oRun [] noHints [] fLPeek [.ptr 0 0] pL0 [0, 1002] F = VT.ite true (VT.leaf (AV.tuple [AV.agg [AV.v (Value.int IntKind.i64 (Int.ofNat 0)), AV.v (Value.int IntKind.i64 (Int.ofNat 0)), AV.v (Value.int IntKind.i64 (Int.ofNat 0))], AV.v (Value.bool false)]) [some (AO.cells [AV.v (Value.slice none 0 0), AV.map 1002] 100), some (AO.map [] 0)] 1101 (((Cnd.p (true = true)).a Cnd.t).a (((Cnd.p (true = true)).a Cnd.t).a ((Cnd.p (true = true)).a ((Cnd.p ([AV.v (Value.int IntKind.i64 (Int.ofNat 0)), AV.v (Value.int IntKind.i64 (Int.ofNat 0)), AV.v (Value.int IntKind.i64 (Int.ofNat 0))] = [AV.v (Value.int IntKind.i64 (Int.ofNat 0)), AV.v (Value.int IntKind.i64 (Int.ofNat 0)), AV.v (Value.int IntKind.i64 (Int.ofNat 0))])).a Cnd.t))))) (VT.bad "indexAddr") := by kernel_rfl
end
end Go.Proofs.Ytcpijmlaglcblaa.Rk

