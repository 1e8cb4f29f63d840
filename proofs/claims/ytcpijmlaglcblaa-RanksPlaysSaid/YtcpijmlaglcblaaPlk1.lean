/- Parts of the proof, merged. -/
import Derived.Test.YtcpijmlaglcblaaEngIMap
import Derived.Test.YtcpijmlaglcblaaProg
import Derived.KernelRfl
import Derived.IntWalk
/- Items in line: cells, order, states. -/
set_option linter.unusedVariables false
set_option linter.unusedSimpArgs false
namespace Go.Proofs.Ytcpijmlaglcblaa.Rk
open Go Go.RowKit Go.Proofs.Ytcpijmlaglcblaa.Eng
def enc (x : It) : List Value := [.int .i64 x.a, .int .i64 x.b, .int .i64 x.c]
def It.zero : It := ⟨0, 0, 0⟩
theorem enc_length (x : It) : (enc x).length = 3 := rfl
def itA (x : It) : AV := .agg (vmap (enc x))
def iv (n : Int) : AV := .v (.int .i64 n)
def ahead (x y : It) : Bool := decide (y.a < x.a) || (x.a == y.a && decide (x.b < y.b))
/-- The i-th item. -/
def at' (s : Ps) (i : Nat) : It := s.xs.getD i It.zero
noncomputable section
def env0 (con : List (FuncId × (List AV → Option (AP AV)))) (hints : ClaimT) (lc : List (FuncId × Nat × Code × (List AV → AP (AX × List AV)))) (F : HP) : Env := envO Try.prog F (conL con) hints (lconL lc) default
def oRun (con : List (FuncId × (List AV → Option (AP AV)))) (hints : ClaimT) (lc : List (FuncId × Nat × Code × (List AV → AP (AX × List AV)))) (f : FuncId) (A : List AV) (H : LH) (ks : List Nat) (F : HP) : VT AV := ((runCall Try.prog (env0 con hints lc F) 1000 f A).run2 (heapOf H) 1100 []).view ks
theorem mixed : Try.prog.follows .mixedOrders = true := by kernel_rfl
theorem tri_run {con : List (FuncId × (List AV → Option (AP AV)))} {hints : ClaimT} {lc : List (FuncId × Nat × Code × (List AV → AP (AX × List AV)))} {f : FuncId} {A : List AV} {H H' : LH} {v : AV} (ks : List Nat) (hH : namesLt 1100 H = true)
    (hcon : ∀ x ∈ con, ∀ F, C1OK Try.prog F x.1 x.2) (hl : ∀ x ∈ lc, ∀ F, L1OK Try.prog F x.2.2.1 x.2.2.2) (h : ∀ F, (oRun con hints lc f A H ks F).all fun u os _ => Fits ks [u] os [v] H') : Tri Try.prog default f A H v H' :=
  tri_of_run ks 1000 mixed hH (fun F _ => conL_ok rfl fun x hx => hcon x hx F) (fun F _ => lconL_ok rfl fun x hx => hl x hx F) fun F _ => h F
theorem none_ok {F : HP → FuncId × (List AV → Option (AP AV)) → Prop} : ∀ x ∈ ([] : List (FuncId × (List AV → Option (AP AV)))), ∀ G, F G x := fun x hx => by cases hx
abbrev tIt : TypeId := 2 * 27
abbrev tLine : TypeId := 2 * 50
/-- The parts of a pile. -/
def pL (s : Ps) : LH := [(0, .cells [.slice 1001 0 s.xs.length 3 (.lo (s.xs.length + s.g.length)), .map 1002] tLine), (1001, .cells (rowV enc (s.xs ++ s.g)) tIt), (1002, .map (mE iv s.m) s.ck)]
def pL0 : LH := [(0, .cells [.v (.slice none 0 0), .map 1002] tLine), (1002, .map [] 0)]
/-- A pile whole. -/
def pH (s : Ps) : Nat → Nat → HP := exHP (fun _ : Unit => True) (fun _ => pL s)
def pH0 : Nat → Nat → HP := exHP (fun _ : Unit => True) (fun _ => pL0)
def pO (s : Ps) : AO := .own (.pile s) (pH s)
def pO0 : AO := .own .pile0 pH0
def noHints : ClaimT := fun _ _ _ => none
/-- Hints, listed. -/
def hintL : List (FuncId × Nat × Nat × Hint) → ClaimT
  | [], _, _, _ => none
  | x :: l, f, r, o => match Nat.beq f x.1 && (Nat.beq r x.2.1 && Nat.beq o x.2.2.1) with
    | true => some x.2.2.2
    | false => hintL l f r o
def hv (v : AV) : Hint := ⟨some v, none, [], false⟩
def ho (k : Nat) (o : AO) : Hint := ⟨none, none, [(k, o)], false⟩
/-- Nothing is appended. -/
def h0 : Hint := ⟨none, none, [], true⟩
end
end Go.Proofs.Ytcpijmlaglcblaa.Rk

/- The pile's methods: what each does to a pile. -/
set_option linter.unusedVariables false
set_option linter.unusedSimpArgs false
set_option maxRecDepth 100000
namespace Go.Proofs.Ytcpijmlaglcblaa.Rk
open Go Go.RowKit Go.Proofs.Ytcpijmlaglcblaa.Eng
noncomputable section
theorem oAhead_eq (x y : It) (F : HP) : oRun [] noHints [] 23 [itA x, itA y] [] [] F = VT.ite (decide (x.a > y.a)) (VT.leaf (AV.v (Value.bool true)) [] 1102 (((Cnd.p (true = true)).a ((Cnd.p (AV.v (Value.int IntKind.i64 x.a) = AV.v (Value.int IntKind.i64 x.a))).a Cnd.t)).a (((Cnd.p (true = true)).a ((Cnd.p (AV.v (Value.int IntKind.i64 y.a) = AV.v (Value.int IntKind.i64 y.a))).a Cnd.t)).a Cnd.t))) (VT.ite (x.a == y.a) (VT.leaf (AV.v (Value.bool (decide (x.b < y.b)))) [] 1102 (((Cnd.p (true = true)).a ((Cnd.p (AV.v (Value.int IntKind.i64 x.a) = AV.v (Value.int IntKind.i64 x.a))).a Cnd.t)).a (((Cnd.p (true = true)).a ((Cnd.p (AV.v (Value.int IntKind.i64 y.a) = AV.v (Value.int IntKind.i64 y.a))).a Cnd.t)).a (((Cnd.p (true = true)).a ((Cnd.p (AV.v (Value.int IntKind.i64 x.a) = AV.v (Value.int IntKind.i64 x.a))).a Cnd.t)).a (((Cnd.p (true = true)).a ((Cnd.p (AV.v (Value.int IntKind.i64 y.a) = AV.v (Value.int IntKind.i64 y.a))).a Cnd.t)).a (((Cnd.p (true = true)).a ((Cnd.p (AV.v (Value.int IntKind.i64 x.b) = AV.v (Value.int IntKind.i64 x.b))).a Cnd.t)).a (((Cnd.p (true = true)).a ((Cnd.p (AV.v (Value.int IntKind.i64 y.b) = AV.v (Value.int IntKind.i64 y.b))).a Cnd.t)).a Cnd.t))))))) (VT.leaf (AV.v (Value.bool false)) [] 1102 (((Cnd.p (true = true)).a ((Cnd.p (AV.v (Value.int IntKind.i64 x.a) = AV.v (Value.int IntKind.i64 x.a))).a Cnd.t)).a (((Cnd.p (true = true)).a ((Cnd.p (AV.v (Value.int IntKind.i64 y.a) = AV.v (Value.int IntKind.i64 y.a))).a Cnd.t)).a (((Cnd.p (true = true)).a ((Cnd.p (AV.v (Value.int IntKind.i64 x.a) = AV.v (Value.int IntKind.i64 x.a))).a Cnd.t)).a (((Cnd.p (true = true)).a ((Cnd.p (AV.v (Value.int IntKind.i64 y.a) = AV.v (Value.int IntKind.i64 y.a))).a Cnd.t)).a Cnd.t)))))) := by kernel_rfl
def conA : List (FuncId × (List AV → Option (AP AV))) := [(23, fun args => match args with
    | [.agg [.v (.int .i64 a), .v (.int .i64 b), .v (.int .i64 c)], .agg [.v (.int .i64 a'), .v (.int .i64 b'), .v (.int .i64 c')]] => some (useC id [itA ⟨a, b, c⟩, itA ⟨a', b', c'⟩] args [] (.leaf .ret [.v (.bool (ahead ⟨a, b, c⟩ ⟨a', b', c'⟩))] []))
    | _ => none)]
abbrev fSwap : Nat := 65
abbrev fLess : Nat := 62
def hLess (s : Ps) (i j : Nat) : ClaimT := hintL [(fLess, 1, 6, hv (itA (at' s i))), (fLess, 1, 13, hv (itA (at' s j)))]
theorem oLess_eq (s : Ps) (i j : Nat) (F : HP) : oRun conA (hLess s i j) [] 62 [.ptr 0 0, iv (Int.ofNat i), iv (Int.ofNat j)] (pL s) [0, 1001, 1002] F = VT.leaf (AV.v (Value.bool (ahead (It.mk (at' s i).a (at' s i).b (at' s i).c) (It.mk (at' s j).a (at' s j).b (at' s j).c)))) [some (AO.cells [AV.slice 1001 0 s.xs.length 3 (Cp.lo (s.xs.length + s.g.length)), AV.map 1002] 100), some (AO.cells (rowV enc (s.xs ++ s.g)) 54), some (AO.map (mE iv s.m) s.ck)] 1100 (((Cnd.p (true = true)).a Cnd.t).a (((Cnd.p (i.blt s.xs.length = true)).a Cnd.t).a (((Cnd.p ((List.take 3 (List.drop (0 + i * 3) (rowV enc (s.xs ++ s.g)))).length.beq 3 = true)).a ((Cnd.p (List.take 3 (List.drop (0 + i * 3) (rowV enc (s.xs ++ s.g))) = [AV.v (Value.int IntKind.i64 ((List.take 3 (List.drop (0 + i * 3) (rowV enc (s.xs ++ s.g)))).getD 0 (AV.v (Value.tuple (Array.mk [])))).intOf), AV.v (Value.int IntKind.i64 ((List.take 3 (List.drop (0 + i * 3) (rowV enc (s.xs ++ s.g)))).getD 1 (AV.v (Value.tuple (Array.mk [])))).intOf), AV.v (Value.int IntKind.i64 ((List.take 3 (List.drop (0 + i * 3) (rowV enc (s.xs ++ s.g)))).getD 2 (AV.v (Value.tuple (Array.mk [])))).intOf)])).a ((Cnd.p (Wk (AV.agg [AV.v (Value.int IntKind.i64 ((List.take 3 (List.drop (0 + i * 3) (rowV enc (s.xs ++ s.g)))).getD 0 (AV.v (Value.tuple (Array.mk [])))).intOf), AV.v (Value.int IntKind.i64 ((List.take 3 (List.drop (0 + i * 3) (rowV enc (s.xs ++ s.g)))).getD 1 (AV.v (Value.tuple (Array.mk [])))).intOf), AV.v (Value.int IntKind.i64 ((List.take 3 (List.drop (0 + i * 3) (rowV enc (s.xs ++ s.g)))).getD 2 (AV.v (Value.tuple (Array.mk [])))).intOf)]) (AV.agg [AV.v (Value.int IntKind.i64 (at' s i).a), AV.v (Value.int IntKind.i64 (at' s i).b), AV.v (Value.int IntKind.i64 (at' s i).c)]))).a Cnd.t))).a (((Cnd.p (true = true)).a Cnd.t).a (((Cnd.p (j.blt s.xs.length = true)).a Cnd.t).a (((Cnd.p ((List.take 3 (List.drop (0 + j * 3) (rowV enc (s.xs ++ s.g)))).length.beq 3 = true)).a ((Cnd.p (List.take 3 (List.drop (0 + j * 3) (rowV enc (s.xs ++ s.g))) = [AV.v (Value.int IntKind.i64 ((List.take 3 (List.drop (0 + j * 3) (rowV enc (s.xs ++ s.g)))).getD 0 (AV.v (Value.tuple (Array.mk [])))).intOf), AV.v (Value.int IntKind.i64 ((List.take 3 (List.drop (0 + j * 3) (rowV enc (s.xs ++ s.g)))).getD 1 (AV.v (Value.tuple (Array.mk [])))).intOf), AV.v (Value.int IntKind.i64 ((List.take 3 (List.drop (0 + j * 3) (rowV enc (s.xs ++ s.g)))).getD 2 (AV.v (Value.tuple (Array.mk [])))).intOf)])).a ((Cnd.p (Wk (AV.agg [AV.v (Value.int IntKind.i64 ((List.take 3 (List.drop (0 + j * 3) (rowV enc (s.xs ++ s.g)))).getD 0 (AV.v (Value.tuple (Array.mk [])))).intOf), AV.v (Value.int IntKind.i64 ((List.take 3 (List.drop (0 + j * 3) (rowV enc (s.xs ++ s.g)))).getD 1 (AV.v (Value.tuple (Array.mk [])))).intOf), AV.v (Value.int IntKind.i64 ((List.take 3 (List.drop (0 + j * 3) (rowV enc (s.xs ++ s.g)))).getD 2 (AV.v (Value.tuple (Array.mk [])))).intOf)]) (AV.agg [AV.v (Value.int IntKind.i64 (at' s j).a), AV.v (Value.int IntKind.i64 (at' s j).b), AV.v (Value.int IntKind.i64 (at' s j).c)]))).a Cnd.t))).a (((Cnd.p (VW [AV.agg [AV.v (Value.int IntKind.i64 (at' s i).a), AV.v (Value.int IntKind.i64 (at' s i).b), AV.v (Value.int IntKind.i64 (at' s i).c)], AV.agg [AV.v (Value.int IntKind.i64 (at' s j).a), AV.v (Value.int IntKind.i64 (at' s j).b), AV.v (Value.int IntKind.i64 (at' s j).c)]] [AV.agg [AV.v (Value.int IntKind.i64 (at' s i).a), AV.v (Value.int IntKind.i64 (at' s i).b), AV.v (Value.int IntKind.i64 (at' s i).c)], AV.agg [AV.v (Value.int IntKind.i64 (at' s j).a), AV.v (Value.int IntKind.i64 (at' s j).b), AV.v (Value.int IntKind.i64 (at' s j).c)]])).a Cnd.t).a Cnd.t))))))) := by kernel_rfl
def swapM (s : Ps) (i j : Nat) : IMap Int := mset (mset s.m s.ck (at' s j).b i) (mbump s.m s.ck (at' s j).b) (at' s i).b j
def swapC (s : Ps) (i j : Nat) : Nat := mbump (mset s.m s.ck (at' s j).b i) (mbump s.m s.ck (at' s j).b) (at' s i).b
def swapS (s : Ps) (i j : Nat) : Ps := ⟨(s.xs.set i (at' s j)).set j (at' s i), s.g, swapM s i j, swapC s i j⟩
def hSwap (s : Ps) (i j : Nat) : ClaimT := hintL [(fSwap, 0, 16, hv (itA (at' s j))), (fSwap, 0, 23, hv (itA (at' s i))), (fSwap, 0, 25, ho 1001 (.cells (rowV enc (s.xs.set i (at' s j) ++ s.g)) tIt)), (fSwap, 0, 27, ho 1001 (.cells (rowV enc ((swapS s i j).xs ++ s.g)) tIt)),
  (fSwap, 1, 11, hv (iv (at' s j).b)), (fSwap, 1, 23, hv (iv (at' s i).b)),
  (fSwap, 1, 28, ho 1002 (.map (mE iv (mset s.m s.ck (at' s j).b i)) (mbump s.m s.ck (at' s j).b))),
  (fSwap, 1, 31, ho 1002 (.map (mE iv (swapM s i j)) (swapC s i j)))]
theorem oSwap_eq (s : Ps) (i j : Nat) (F : HP) : oRun [] (hSwap s i j) [] 65 [.ptr 0 0, iv (Int.ofNat i), iv (Int.ofNat j)] (pL s) [0, 1001, 1002] F = VT.leaf (AV.tuple []) [some (AO.cells [AV.slice 1001 0 s.xs.length 3 (Cp.lo (s.xs.length + s.g.length)), AV.map 1002] 100), some (AO.cells (rowV enc ((s.xs.set i (at' s j)).set j (at' s i) ++ s.g)) 54), some (AO.map (mE iv (swapM s i j)) (swapC s i j))] 1100 (((Cnd.p (true = true)).a Cnd.t).a (((Cnd.p (true = true)).a Cnd.t).a (((Cnd.p (true = true)).a Cnd.t).a (((Cnd.p (j.blt s.xs.length = true)).a Cnd.t).a (((Cnd.p ((List.take 3 (List.drop (0 + j * 3) (rowV enc (s.xs ++ s.g)))).length.beq 3 = true)).a ((Cnd.p (List.take 3 (List.drop (0 + j * 3) (rowV enc (s.xs ++ s.g))) = [AV.v (Value.int IntKind.i64 ((List.take 3 (List.drop (0 + j * 3) (rowV enc (s.xs ++ s.g)))).getD 0 (AV.v (Value.tuple (Array.mk [])))).intOf), AV.v (Value.int IntKind.i64 ((List.take 3 (List.drop (0 + j * 3) (rowV enc (s.xs ++ s.g)))).getD 1 (AV.v (Value.tuple (Array.mk [])))).intOf), AV.v (Value.int IntKind.i64 ((List.take 3 (List.drop (0 + j * 3) (rowV enc (s.xs ++ s.g)))).getD 2 (AV.v (Value.tuple (Array.mk [])))).intOf)])).a ((Cnd.p (Wk (AV.agg [AV.v (Value.int IntKind.i64 ((List.take 3 (List.drop (0 + j * 3) (rowV enc (s.xs ++ s.g)))).getD 0 (AV.v (Value.tuple (Array.mk [])))).intOf), AV.v (Value.int IntKind.i64 ((List.take 3 (List.drop (0 + j * 3) (rowV enc (s.xs ++ s.g)))).getD 1 (AV.v (Value.tuple (Array.mk [])))).intOf), AV.v (Value.int IntKind.i64 ((List.take 3 (List.drop (0 + j * 3) (rowV enc (s.xs ++ s.g)))).getD 2 (AV.v (Value.tuple (Array.mk [])))).intOf)]) (AV.agg [AV.v (Value.int IntKind.i64 (at' s j).a), AV.v (Value.int IntKind.i64 (at' s j).b), AV.v (Value.int IntKind.i64 (at' s j).c)]))).a Cnd.t))).a (((Cnd.p (true = true)).a Cnd.t).a (((Cnd.p (i.blt s.xs.length = true)).a Cnd.t).a (((Cnd.p ((List.take 3 (List.drop (0 + i * 3) (rowV enc (s.xs ++ s.g)))).length.beq 3 = true)).a ((Cnd.p (List.take 3 (List.drop (0 + i * 3) (rowV enc (s.xs ++ s.g))) = [AV.v (Value.int IntKind.i64 ((List.take 3 (List.drop (0 + i * 3) (rowV enc (s.xs ++ s.g)))).getD 0 (AV.v (Value.tuple (Array.mk [])))).intOf), AV.v (Value.int IntKind.i64 ((List.take 3 (List.drop (0 + i * 3) (rowV enc (s.xs ++ s.g)))).getD 1 (AV.v (Value.tuple (Array.mk [])))).intOf), AV.v (Value.int IntKind.i64 ((List.take 3 (List.drop (0 + i * 3) (rowV enc (s.xs ++ s.g)))).getD 2 (AV.v (Value.tuple (Array.mk [])))).intOf)])).a ((Cnd.p (Wk (AV.agg [AV.v (Value.int IntKind.i64 ((List.take 3 (List.drop (0 + i * 3) (rowV enc (s.xs ++ s.g)))).getD 0 (AV.v (Value.tuple (Array.mk [])))).intOf), AV.v (Value.int IntKind.i64 ((List.take 3 (List.drop (0 + i * 3) (rowV enc (s.xs ++ s.g)))).getD 1 (AV.v (Value.tuple (Array.mk [])))).intOf), AV.v (Value.int IntKind.i64 ((List.take 3 (List.drop (0 + i * 3) (rowV enc (s.xs ++ s.g)))).getD 2 (AV.v (Value.tuple (Array.mk [])))).intOf)]) (AV.agg [AV.v (Value.int IntKind.i64 (at' s i).a), AV.v (Value.int IntKind.i64 (at' s i).b), AV.v (Value.int IntKind.i64 (at' s i).c)]))).a Cnd.t))).a (((Cnd.p (i.blt s.xs.length = true)).a Cnd.t).a (((Cnd.p ((0 + i * 3 + 3).ble (rowV enc (s.xs ++ s.g)).length = true)).a ((Cnd.p (OW (AO.cells (splice (rowV enc (s.xs ++ s.g)) (0 + i * 3) [AV.v (Value.int IntKind.i64 (at' s j).a), AV.v (Value.int IntKind.i64 (at' s j).b), AV.v (Value.int IntKind.i64 (at' s j).c)]) 54) (AO.cells (rowV enc (s.xs.set i (at' s j) ++ s.g)) 54))).a Cnd.t)).a (((Cnd.p (j.blt s.xs.length = true)).a Cnd.t).a (((Cnd.p ((0 + j * 3 + 3).ble (rowV enc (s.xs.set i (at' s j) ++ s.g)).length = true)).a ((Cnd.p (OW (AO.cells (splice (rowV enc (s.xs.set i (at' s j) ++ s.g)) (0 + j * 3) [AV.v (Value.int IntKind.i64 (at' s i).a), AV.v (Value.int IntKind.i64 (at' s i).b), AV.v (Value.int IntKind.i64 (at' s i).c)]) 54) (AO.cells (rowV enc ((s.xs.set i (at' s j)).set j (at' s i) ++ s.g)) 54))).a Cnd.t)).a (((Cnd.p (true = true)).a Cnd.t).a (((Cnd.p (true = true)).a Cnd.t).a (((Cnd.p (i.blt s.xs.length = true)).a Cnd.t).a (((Cnd.p ((0 + i * 3 + 1).blt (rowV enc ((s.xs.set i (at' s j)).set j (at' s i) ++ s.g)).length = true)).a ((Cnd.p ((rowV enc ((s.xs.set i (at' s j)).set j (at' s i) ++ s.g)).getD (0 + i * 3 + 1) (AV.v (Value.tuple (Array.mk []))) = AV.v (Value.int IntKind.i64 ((rowV enc ((s.xs.set i (at' s j)).set j (at' s i) ++ s.g)).getD (0 + i * 3 + 1) (AV.v (Value.tuple (Array.mk [])))).intOf))).a ((Cnd.p (Wk (AV.v (Value.int IntKind.i64 ((rowV enc ((s.xs.set i (at' s j)).set j (at' s i) ++ s.g)).getD (0 + i * 3 + 1) (AV.v (Value.tuple (Array.mk [])))).intOf)) (AV.v (Value.int IntKind.i64 (at' s j).b)))).a Cnd.t))).a (((Cnd.p (true = true)).a Cnd.t).a (((Cnd.p (true = true)).a Cnd.t).a (((Cnd.p (j.blt s.xs.length = true)).a Cnd.t).a (((Cnd.p ((0 + j * 3 + 1).blt (rowV enc ((s.xs.set i (at' s j)).set j (at' s i) ++ s.g)).length = true)).a ((Cnd.p ((rowV enc ((s.xs.set i (at' s j)).set j (at' s i) ++ s.g)).getD (0 + j * 3 + 1) (AV.v (Value.tuple (Array.mk []))) = AV.v (Value.int IntKind.i64 ((rowV enc ((s.xs.set i (at' s j)).set j (at' s i) ++ s.g)).getD (0 + j * 3 + 1) (AV.v (Value.tuple (Array.mk [])))).intOf))).a ((Cnd.p (Wk (AV.v (Value.int IntKind.i64 ((rowV enc ((s.xs.set i (at' s j)).set j (at' s i) ++ s.g)).getD (0 + j * 3 + 1) (AV.v (Value.tuple (Array.mk [])))).intOf)) (AV.v (Value.int IntKind.i64 (at' s i).b)))).a Cnd.t))).a (((Cnd.p (findKey Try.prog (env0 [] (hSwap s i j) [] F) 3 (AV.v (Value.int IntKind.i64 (at' s j).b)) (mE iv s.m) 0 = AP.ret (findS (AV.v (Value.int IntKind.i64 (at' s j).b)) (mE iv s.m) 0))).a ((Cnd.p (staysS (AV.v (Value.int IntKind.i64 (at' s j).b)) (mE iv s.m))).a Cnd.t)).a (((Cnd.p ((bornAt (stampE (AV.v (Value.int IntKind.i64 (at' s j).b)) (mE iv s.m) s.ck) (ensE (AV.v (Value.int IntKind.i64 (at' s j).b)) (AV.v (Value.int IntKind.i64 (Int.ofNat 0))) (mE iv s.m) s.ck) 0).isSome = true)).a ((Cnd.p (OW (AO.map (storeE (stampE (AV.v (Value.int IntKind.i64 (at' s j).b)) (mE iv s.m) s.ck) (AV.v (Value.int IntKind.i64 (Int.ofNat i))) (ensE (AV.v (Value.int IntKind.i64 (at' s j).b)) (AV.v (Value.int IntKind.i64 (Int.ofNat 0))) (mE iv s.m) s.ck)) (bumpE (AV.v (Value.int IntKind.i64 (at' s j).b)) (mE iv s.m) s.ck)) (AO.map (mE iv (mset s.m s.ck (at' s j).b ↑i)) (mbump s.m s.ck (at' s j).b)))).a Cnd.t)).a (((Cnd.p (findKey Try.prog (env0 [] (hSwap s i j) [] F) 3 (AV.v (Value.int IntKind.i64 (at' s i).b)) (mE iv (mset s.m s.ck (at' s j).b ↑i)) 0 = AP.ret (findS (AV.v (Value.int IntKind.i64 (at' s i).b)) (mE iv (mset s.m s.ck (at' s j).b ↑i)) 0))).a ((Cnd.p (staysS (AV.v (Value.int IntKind.i64 (at' s i).b)) (mE iv (mset s.m s.ck (at' s j).b ↑i)))).a Cnd.t)).a (((Cnd.p ((bornAt (stampE (AV.v (Value.int IntKind.i64 (at' s i).b)) (mE iv (mset s.m s.ck (at' s j).b ↑i)) (mbump s.m s.ck (at' s j).b)) (ensE (AV.v (Value.int IntKind.i64 (at' s i).b)) (AV.v (Value.int IntKind.i64 (Int.ofNat 0))) (mE iv (mset s.m s.ck (at' s j).b ↑i)) (mbump s.m s.ck (at' s j).b)) 0).isSome = true)).a ((Cnd.p (OW (AO.map (storeE (stampE (AV.v (Value.int IntKind.i64 (at' s i).b)) (mE iv (mset s.m s.ck (at' s j).b ↑i)) (mbump s.m s.ck (at' s j).b)) (AV.v (Value.int IntKind.i64 (Int.ofNat j))) (ensE (AV.v (Value.int IntKind.i64 (at' s i).b)) (AV.v (Value.int IntKind.i64 (Int.ofNat 0))) (mE iv (mset s.m s.ck (at' s j).b ↑i)) (mbump s.m s.ck (at' s j).b))) (bumpE (AV.v (Value.int IntKind.i64 (at' s i).b)) (mE iv (mset s.m s.ck (at' s j).b ↑i)) (mbump s.m s.ck (at' s j).b))) (AO.map (mE iv (swapM s i j)) (swapC s i j)))).a Cnd.t)).a Cnd.t)))))))))))))))))))))))) := by kernel_rfl
abbrev fLen : Nat := 61
abbrev fPush : Nat := 64
theorem oLen_eq (s : Ps) (F : HP) : oRun [] noHints [] 61 [.ptr 0 0] (pL s) [0, 1001, 1002] F = VT.leaf (AV.v (Value.int IntKind.i64 ↑s.xs.length)) [some (AO.cells [AV.slice 1001 0 s.xs.length 3 (Cp.lo (s.xs.length + s.g.length)), AV.map 1002] 100), some (AO.cells (rowV enc (s.xs ++ s.g)) 54), some (AO.map (mE iv s.m) s.ck)] 1100 (((Cnd.p (true = true)).a Cnd.t).a Cnd.t) := by kernel_rfl
theorem oLen0_eq (F : HP) : oRun [] noHints [] 61 [.ptr 0 0] pL0 [0, 1002] F = VT.leaf (AV.v (Value.int IntKind.i64 (Int.ofNat 0))) [some (AO.cells [AV.v (Value.slice none 0 0), AV.map 1002] 100), some (AO.map [] 0)] 1100 (((Cnd.p (true = true)).a Cnd.t).a Cnd.t) := by kernel_rfl
theorem oPush_eq (s : Ps) (x : It) (F : HP) : oRun [] noHints [] 64 [.ptr 0 0, .iface 27 (itA x)] (pL s) [0, 1001, 1002, 1100, 1101, 1102, 1103] F = VT.leaf (AV.tuple []) [some (AO.cells [AV.slice 1102 0 (s.xs.length + 1) 3 (Cp.lo (s.xs.length + 1)), AV.map 1002] 100), none, some (AO.map (setE (AV.v (Value.int IntKind.i64 x.b)) (AV.v (Value.int IntKind.i64 ↑s.xs.length)) (mE iv s.m) s.ck) (bumpE (AV.v (Value.int IntKind.i64 x.b)) (mE iv s.m) s.ck)), some (AO.cells [AV.v (Value.int IntKind.i64 x.a), AV.v (Value.int IntKind.i64 x.b), AV.v (Value.int IntKind.i64 x.c)] 54), some (AO.cells [AV.v (Value.int IntKind.i64 x.a), AV.v (Value.int IntKind.i64 x.b), AV.v (Value.int IntKind.i64 x.c)] 54), some (AO.cells (List.take (s.xs.length * 3) (List.drop 0 (rowV enc (s.xs ++ s.g))) ++ [AV.v (Value.int IntKind.i64 x.a), AV.v (Value.int IntKind.i64 x.b), AV.v (Value.int IntKind.i64 x.c)]) 54), none] 1103 (((Cnd.p (true = true)).a Cnd.t).a (((Cnd.p (true = true)).a Cnd.t).a (((Cnd.p (true = true)).a ((Cnd.p (AV.v (Value.int IntKind.i64 x.b) = AV.v (Value.int IntKind.i64 x.b))).a Cnd.t)).a (((Cnd.p (true = true)).a Cnd.t).a (((Cnd.p (findKey Try.prog (env0 [] noHints [] F) 3 (AV.v (Value.int IntKind.i64 x.b)) (mE iv s.m) 0 = AP.ret (findS (AV.v (Value.int IntKind.i64 x.b)) (mE iv s.m) 0))).a ((Cnd.p (staysS (AV.v (Value.int IntKind.i64 x.b)) (mE iv s.m))).a Cnd.t)).a (((Cnd.p (true = true)).a Cnd.t).a (((Cnd.p (true = true)).a ((Cnd.p ([AV.v (Value.int IntKind.i64 x.a), AV.v (Value.int IntKind.i64 x.b), AV.v (Value.int IntKind.i64 x.c)] = [AV.v (Value.int IntKind.i64 x.a), AV.v (Value.int IntKind.i64 x.b), AV.v (Value.int IntKind.i64 x.c)])).a Cnd.t)).a (((Cnd.p (true = true)).a ((Cnd.p (true = true)).a ((Cnd.p (true = true)).a ((Cnd.p (true = true)).a ((Cnd.p ((0 + s.xs.length * 3).ble (rowV enc (s.xs ++ s.g)).length = true)).a ((Cnd.p (((s.xs.length + 1) * 24).ble 140737488355328 = true)).a ((Cnd.p ((s.xs.length + 1).ble 9223372036854775807 = true)).a ((Cnd.p ((List.take (s.xs.length * 3) (List.drop 0 (rowV enc (s.xs ++ s.g)))).length.beq (s.xs.length * 3) = true)).a Cnd.t)))))))).a (((Cnd.p (true = true)).a Cnd.t).a Cnd.t))))))))) := by kernel_rfl
theorem oPush0_eq (x : It) (F : HP) : oRun [] noHints [] 64 [.ptr 0 0, .iface 27 (itA x)] pL0 [0, 1002, 1100, 1101, 1102, 1103] F = VT.leaf (AV.tuple []) [some (AO.cells [AV.slice 1102 0 1 3 (Cp.lo 1), AV.map 1002] 100), some (AO.map [(AV.v (Value.int IntKind.i64 x.b), AV.v (Value.int IntKind.i64 (Int.ofNat 0)), 0)] 1), some (AO.cells [AV.v (Value.int IntKind.i64 x.a), AV.v (Value.int IntKind.i64 x.b), AV.v (Value.int IntKind.i64 x.c)] 54), some (AO.cells [AV.v (Value.int IntKind.i64 x.a), AV.v (Value.int IntKind.i64 x.b), AV.v (Value.int IntKind.i64 x.c)] 54), some (AO.cells [AV.v (Value.int IntKind.i64 x.a), AV.v (Value.int IntKind.i64 x.b), AV.v (Value.int IntKind.i64 x.c)] 54), none] 1103 (((Cnd.p (true = true)).a Cnd.t).a (((Cnd.p (true = true)).a Cnd.t).a (((Cnd.p (true = true)).a ((Cnd.p (AV.v (Value.int IntKind.i64 x.b) = AV.v (Value.int IntKind.i64 x.b))).a Cnd.t)).a (((Cnd.p (true = true)).a Cnd.t).a (((Cnd.p (findKey Try.prog (env0 [] noHints [] F) 3 (AV.v (Value.int IntKind.i64 x.b)) [] 0 = AP.ret none)).a ((Cnd.p (staysS (AV.v (Value.int IntKind.i64 x.b)) [])).a Cnd.t)).a (((Cnd.p (true = true)).a Cnd.t).a (((Cnd.p (true = true)).a ((Cnd.p ([AV.v (Value.int IntKind.i64 x.a), AV.v (Value.int IntKind.i64 x.b), AV.v (Value.int IntKind.i64 x.c)] = [AV.v (Value.int IntKind.i64 x.a), AV.v (Value.int IntKind.i64 x.b), AV.v (Value.int IntKind.i64 x.c)])).a Cnd.t)).a (((Cnd.p (true = true)).a ((Cnd.p (true = true)).a ((Cnd.p (true = true)).a ((Cnd.p (true = true)).a ((Cnd.p (true = true)).a ((Cnd.p (true = true)).a Cnd.t)))))).a (((Cnd.p (true = true)).a Cnd.t).a Cnd.t))))))))) := by kernel_rfl
abbrev fPop : Nat := 63
def hPop (s : Ps) : ClaimT := hintL [(fPop, 1, 5, hv (iv (Int.ofNat (s.xs.length - 1)))), (fPop, 2, 6, hv (itA (at' s (s.xs.length - 1))))]
theorem oPop_eq (s : Ps) (F : HP) : oRun [] (hPop s) [] 63 [.ptr 0 0] (pL s) [0, 1001, 1002] F = VT.leaf (AV.iface 27 (AV.agg [AV.v (Value.int IntKind.i64 (at' s (s.xs.length - 1)).a), AV.v (Value.int IntKind.i64 (at' s (s.xs.length - 1)).b), AV.v (Value.int IntKind.i64 (at' s (s.xs.length - 1)).c)])) [some (AO.cells [AV.slice 1001 0 (s.xs.length - 1 - 0) 3 (Cp.lo (s.xs.length + s.g.length - 0)), AV.map 1002] 100), some (AO.cells (rowV enc (s.xs ++ s.g)) 54), some (AO.map (delE (AV.v (Value.int IntKind.i64 (at' s (s.xs.length - 1)).b)) (mE iv s.m)) s.ck)] 1101 (((Cnd.p (true = true)).a Cnd.t).a (((Cnd.p (Wk (AV.v (Value.int IntKind.i64 (IntKind.i64.wrap (↑s.xs.length - Int.ofNat 1)))) (AV.v (Value.int IntKind.i64 (Int.ofNat (s.xs.length - 1)))))).a Cnd.t).a (((Cnd.p (true = true)).a Cnd.t).a (((Cnd.p ((s.xs.length - 1).blt s.xs.length = true)).a Cnd.t).a (((Cnd.p ((List.take 3 (List.drop (0 + (s.xs.length - 1) * 3) (rowV enc (s.xs ++ s.g)))).length.beq 3 = true)).a ((Cnd.p (List.take 3 (List.drop (0 + (s.xs.length - 1) * 3) (rowV enc (s.xs ++ s.g))) = [AV.v (Value.int IntKind.i64 ((List.take 3 (List.drop (0 + (s.xs.length - 1) * 3) (rowV enc (s.xs ++ s.g)))).getD 0 (AV.v (Value.tuple (Array.mk [])))).intOf), AV.v (Value.int IntKind.i64 ((List.take 3 (List.drop (0 + (s.xs.length - 1) * 3) (rowV enc (s.xs ++ s.g)))).getD 1 (AV.v (Value.tuple (Array.mk [])))).intOf), AV.v (Value.int IntKind.i64 ((List.take 3 (List.drop (0 + (s.xs.length - 1) * 3) (rowV enc (s.xs ++ s.g)))).getD 2 (AV.v (Value.tuple (Array.mk [])))).intOf)])).a ((Cnd.p (Wk (AV.agg [AV.v (Value.int IntKind.i64 ((List.take 3 (List.drop (0 + (s.xs.length - 1) * 3) (rowV enc (s.xs ++ s.g)))).getD 0 (AV.v (Value.tuple (Array.mk [])))).intOf), AV.v (Value.int IntKind.i64 ((List.take 3 (List.drop (0 + (s.xs.length - 1) * 3) (rowV enc (s.xs ++ s.g)))).getD 1 (AV.v (Value.tuple (Array.mk [])))).intOf), AV.v (Value.int IntKind.i64 ((List.take 3 (List.drop (0 + (s.xs.length - 1) * 3) (rowV enc (s.xs ++ s.g)))).getD 2 (AV.v (Value.tuple (Array.mk [])))).intOf)]) (AV.agg [AV.v (Value.int IntKind.i64 (at' s (s.xs.length - 1)).a), AV.v (Value.int IntKind.i64 (at' s (s.xs.length - 1)).b), AV.v (Value.int IntKind.i64 (at' s (s.xs.length - 1)).c)]))).a Cnd.t))).a (((Cnd.p (true = true)).a Cnd.t).a (((Cnd.p (true = true)).a Cnd.t).a (((Cnd.p (true = true)).a ((Cnd.p ((s.xs.length - 1).ble (s.xs.length + s.g.length) = true)).a ((Cnd.p ((s.xs.length + s.g.length).ble (s.xs.length + s.g.length) = true)).a Cnd.t))).a (((Cnd.p (true = true)).a Cnd.t).a (((Cnd.p (true = true)).a Cnd.t).a (((Cnd.p (true = true)).a ((Cnd.p (AV.v (Value.int IntKind.i64 (at' s (s.xs.length - 1)).b) = AV.v (Value.int IntKind.i64 (at' s (s.xs.length - 1)).b))).a Cnd.t)).a (((Cnd.p (findKey Try.prog (env0 [] (hPop s) [] F) 3 (AV.v (Value.int IntKind.i64 (at' s (s.xs.length - 1)).b)) (mE iv s.m) 0 = AP.ret (findS (AV.v (Value.int IntKind.i64 (at' s (s.xs.length - 1)).b)) (mE iv s.m) 0))).a Cnd.t).a (((Cnd.p (true = true)).a ((Cnd.p ([AV.v (Value.int IntKind.i64 (at' s (s.xs.length - 1)).a), AV.v (Value.int IntKind.i64 (at' s (s.xs.length - 1)).b), AV.v (Value.int IntKind.i64 (at' s (s.xs.length - 1)).c)] = [AV.v (Value.int IntKind.i64 (at' s (s.xs.length - 1)).a), AV.v (Value.int IntKind.i64 (at' s (s.xs.length - 1)).b), AV.v (Value.int IntKind.i64 (at' s (s.xs.length - 1)).c)])).a Cnd.t)).a Cnd.t))))))))))))) := by kernel_rfl
end
end Go.Proofs.Ytcpijmlaglcblaa.Rk

/- The pile's methods: contracts. -/
set_option linter.unusedVariables false
set_option linter.unusedSimpArgs false
set_option maxRecDepth 100000
namespace Go.Proofs.Ytcpijmlaglcblaa.Rk
open Go Go.RowKit Go.Proofs.Ytcpijmlaglcblaa.Eng
theorem intT : Try.prog.underlying 3 = some (.int .i64) := by kernel_rfl
theorem noC : ∀ x ∈ ([] : List (FuncId × (List AV → Option (AP AV)))), ∀ F, C1OK Try.prog F x.1 x.2 := fun x hx => by cases hx
theorem noL : ∀ x ∈ ([] : List (FuncId × Nat × Code × (List AV → AP (AX × List AV)))), ∀ F, L1OK Try.prog F x.2.2.1 x.2.2.2 := fun x hx => by cases hx
theorem at_append (s : Ps) (i : Nat) (hi : i < s.xs.length) : (s.xs ++ s.g).getD i It.zero = at' s i := by
  simp [at', List.getD, List.getElem?_append_left hi]
theorem row_at (s : Ps) (i : Nat) (hi : i < s.xs.length) : List.take 3 (List.drop (0 + i * 3) (rowV enc (s.xs ++ s.g))) = vmap (enc (at' s i)) := by
  rw [Nat.zero_add, rowV_span enc_length _ It.zero i (by rw [List.length_append]; omega), at_append s i hi]
theorem row_len (s : Ps) : (rowV enc (s.xs ++ s.g)).length = (s.xs.length + s.g.length) * 3 := by rw [rowV_length enc_length, List.length_append]
theorem oldDef {F : HP} : OldOK default F := OldOK.nothing F
/-- A pile that lies open is shut. -/
theorem fits_pile {ks : List Nat} {os : List (Option AO)} {u v : AV} (s : Ps) (l : List (Nat × Nat)) (hk : keysIn (pL s) l = true) (hi : injB ((pL s).map (·.1)) (sg l) = true) (hv : VW [u] (AV.rens (sg l) [v])) (hc : AV.cls (fun i => Nat.blt i 1000) [v])
    (ho : ObjsOK ks os l (pL s)) : Fits ks [u] os [v] [(0, pO s)] := by
  refine ⟨[v], pL s, l, rfl, fit_mk l hk hi hv ho, ?_⟩
  have := Goes.shut (σ := Unit) (R := fun _ => True) (L := fun _ => pL s) (m := .pile s) (H0 := []) (vs := [v]) () trivial rfl ⟨_, _, rfl, rfl⟩ (by
    have e : (fun i => Nat.blt i 1000 || (getO ([] : LH) i).isSome) = fun i => Nat.blt i 1000 := by funext i; simp [getO]
    rw [e]; exact hc) (fun x hx => by cases hx)
  rwa [List.append_nil] at this
theorem open_pile {f : FuncId} {A : List AV} {s : Ps} {v : AV} {H' : LH} (h : Tri Try.prog default f A (pL s) v H') : Tri Try.prog default f A [(0, pO s)] v H' := by
  refine Tri.open (σ := Unit) (R := fun _ => True) (L := fun _ => pL s) (H0 := []) (fun _ => rfl) (fun _ x hx => ?_) (fun _ => ⟨_, rfl⟩) (fun _ _ => by rw [List.append_nil]; exact h)
  simp only [pL, List.mem_cons, List.not_mem_nil, or_false] at hx
  rcases hx with rfl | rfl | rfl
  · exact ⟨rfl, rfl, trivial⟩
  · exact cls_rowV _ _
  · show clE _ (mE iv s.m)
    have : ∀ m : IMap Int, clE (kH (pL s)) (mE iv m) := by
      intro m
      induction m with
      | nil => exact trivial
      | cons e m ih => exact ⟨trivial, trivial, ih⟩
    exact this s.m
theorem open_pile0 {f : FuncId} {A : List AV} {v : AV} {H' : LH} (h : Tri Try.prog default f A pL0 v H') : Tri Try.prog default f A [(0, pO0)] v H' := by
  refine Tri.open (σ := Unit) (R := fun _ => True) (L := fun _ => pL0) (H0 := []) (fun _ => rfl) (fun _ x hx => ?_) (fun _ => ⟨_, rfl⟩) (fun _ _ => by rw [List.append_nil]; exact h)
  simp only [pL0, List.mem_cons, List.not_mem_nil, or_false] at hx
  rcases hx with rfl | rfl
  · exact ⟨trivial, rfl, trivial⟩
  · exact trivial
theorem wk_int {a b : Int} (h : a = b) : Wk (.v (.int .i64 a)) (.v (.int .i64 b)) := Wk.of_eq (by rw [h])
theorem renE_mE (σ : Nat → Nat) (m : IMap Int) : renE σ (mE iv m) = mE iv m := by
  induction m with
  | nil => rfl
  | cons e m ih =>
    show renE σ ((.v (.int .i64 e.1), iv e.2.1, e.2.2) :: mE iv m) = _
    rw [renE, ih]; rfl
theorem objs_pile {ks : List Nat} {os : List (Option AO)} {l : List (Nat × Nat)} (s : Ps) {r m : Nat} (h00 : sg l 0 = 0) (hr : sg l 1001 = r) (hm : sg l 1002 = m) (h0 : getK ks os 0 = some (.cells [.slice r 0 s.xs.length 3 (.lo (s.xs.length + s.g.length)), .map m] tLine))
    (h1 : getK ks os r = some (.cells (rowV enc (s.xs ++ s.g)) tIt)) (h2 : getK ks os m = some (.map (mE iv s.m) s.ck)) : ObjsOK ks os l (pL s) := by
  refine ⟨⟨_, by rw [h00]; exact h0, OW.of_eq ?_⟩, ⟨_, by rw [hr]; exact h1, OW.of_eq ?_⟩, ⟨_, by rw [hm]; exact h2, OW.of_eq ?_⟩, trivial⟩
  · simp only [AO.ren, AV.rens, AV.ren, hr, hm]
  · simp only [AO.ren, rens_rowV]
  · simp only [AO.ren, renE_mE]
theorem ahead_tri (x y : It) : Tri Try.prog default 23 [itA x, itA y] [] (.v (.bool (ahead x y))) [] := by
  refine tri_run (con := []) (hints := noHints) (lc := []) [] rfl noC noL fun F => ?_
  rw [oAhead_eq]
  have fin : ∀ b, b = ahead x y → Fits [] [.v (.bool b)] [] [.v (.bool (ahead x y))] [] := fun b hb => (fit_mk [] rfl rfl (by subst hb; exact VW.refl _) (show ObjsOK [] [] [] [] from trivial)).fits rfl
  refine ⟨fun h1 => ⟨?_, fin _ ?_⟩, fun h1 => ⟨fun h2 => ⟨?_, fin _ ?_⟩, fun h2 => ⟨?_, fin _ ?_⟩⟩⟩
  · simp only [Cnd.holds, and_self]
  · simp only [ahead, ← gt_iff_lt, h1, Bool.true_or]
  · simp only [Cnd.holds, and_self]
  · simp only [ahead, ← gt_iff_lt, h1, h2, Bool.false_or, Bool.true_and]
  · simp only [Cnd.holds, and_self]
  · simp only [ahead, ← gt_iff_lt, h1, h2, Bool.false_or, Bool.false_and]
theorem conA_ok : ∀ x ∈ conA, ∀ F, C1OK Try.prog F x.1 x.2 := by
  intro x hx F
  simp only [conA, List.mem_cons, List.not_mem_nil, or_false] at hx
  subst hx
  intro st W0 N h w args vargs v h' n n' lg lg' c p hp he hc r ha hf
  simp only at hp
  split at hp
  · rename_i a b c a' b' c'
    cases hp
    have hcl : ClosedC [itA ⟨a, b, c⟩, itA ⟨a', b', c'⟩] [] [.v (.bool (ahead ⟨a, b, c⟩ ⟨a', b', c'⟩))] [] := ⟨rfl, rfl, ⟨⟨trivial, trivial, trivial, trivial⟩, ⟨trivial, trivial, trivial, trivial⟩, trivial⟩, (fun x hx => by cases hx), ⟨trivial, trivial⟩, fun x hx => by cases hx⟩
    exact useC_ok oldDef (ahead_tri ⟨a, b, c⟩ ⟨a', b', c'⟩) rfl hcl he hc r ha hf
  · cases hp
theorem less_tri (s : Ps) (i j : Nat) (hi : i < s.xs.length) (hj : j < s.xs.length) : Tri Try.prog default fLess [.ptr 0 0, iv (Int.ofNat i), iv (Int.ofNat j)] [(0, pO s)] (.v (.bool (ahead (at' s i) (at' s j)))) [(0, pO s)] := by
  refine open_pile (tri_run (con := conA) (hints := hLess s i j) (lc := []) [0, 1001, 1002] rfl conA_ok noL fun F => ?_)
  rw [oLess_eq]
  refine ⟨?_, fits_pile s [(1001, 1001), (1002, 1002)] (by kernel_rfl) (by kernel_rfl) (VW.refl _) ⟨trivial, trivial⟩ (objs_pile s rfl rfl rfl rfl rfl rfl)⟩
  simp only [Cnd.holds, row_at s i hi, row_at s j hj, true_and, and_true, Nat.blt_eq]
  exact ⟨hi, ⟨rfl, rfl, Wk.refl _⟩, hj, ⟨rfl, rfl, Wk.refl _⟩, VW.refl _⟩
theorem row_store (s : Ps) (ys : List It) (i : Nat) (y : It) (hi : i < ys.length) : splice (rowV enc (ys ++ s.g)) (0 + i * 3) (vmap (enc y)) = rowV enc (ys.set i y ++ s.g) := by
  rw [Nat.zero_add, rowV_splice enc_length _ i y (by rw [List.length_append]; omega), List.set_append_left _ _ hi]
theorem row_seq (s : Ps) (ys : List It) (i : Nat) (hi : i < ys.length) : (rowV enc (ys ++ s.g)).getD (0 + i * 3 + 1) (AV.v (Value.tuple { toList := [] })) = iv (ys.getD i It.zero).b := by
  have h := rowV_span enc_length (ys ++ s.g) It.zero i (by rw [List.length_append]; omega)
  have h2 : ((rowV enc (ys ++ s.g)).drop (i * 3)).take 3 = vmap (enc (ys.getD i It.zero)) := by rw [h]; simp [List.getD, List.getElem?_append_left hi]
  have h3 : (((rowV enc (ys ++ s.g)).drop (i * 3)).take 3)[1]? = (vmap (enc (ys.getD i It.zero)))[1]? := by rw [h2]
  rw [List.getElem?_take_of_lt (by decide), List.getElem?_drop] at h3
  rw [Nat.zero_add, List.getD, h3]
  rfl
theorem swap_len (s : Ps) (i j : Nat) : (swapS s i j).xs.length = s.xs.length := by simp [swapS]
theorem swap_at_i (s : Ps) (i j : Nat) (hi : i < s.xs.length) (hj : j < s.xs.length) : (swapS s i j).xs.getD i It.zero = at' s j := by
  simp only [swapS, at', List.getD]
  by_cases h : j = i
  · subst h; simp [hj]
  · rw [List.getElem?_set_ne h, List.getElem?_set_self hi]; rfl
theorem swap_at_j (s : Ps) (i j : Nat) (hi : i < s.xs.length) (hj : j < s.xs.length) : (swapS s i j).xs.getD j It.zero = at' s i := by
  simp only [swapS, at', List.getD]
  rw [List.getElem?_set_self (by simpa using hj)]; rfl
theorem swap_tri (s : Ps) (i j : Nat) (hi : i < s.xs.length) (hj : j < s.xs.length) (hM : MI s.m s.ck) : Tri Try.prog default fSwap [.ptr 0 0, iv (Int.ofNat i), iv (Int.ofNat j)] [(0, pO s)] (.tuple []) [(0, pO (swapS s i j))] := by
  refine open_pile (tri_run (con := []) (hints := hSwap s i j) (lc := []) [0, 1001, 1002] rfl noC noL fun F => ?_)
  rw [oSwap_eq]
  have hgl : (swapS s i j).g = s.g := rfl
  refine ⟨?_, fits_pile (swapS s i j) [(1001, 1001), (1002, 1002)] (by kernel_rfl) (by kernel_rfl) (VW.refl _) ⟨trivial, trivial⟩ (objs_pile (swapS s i j) rfl rfl rfl (by rw [swap_len]; rfl) rfl rfl)⟩
  have e1 := row_store s s.xs i (at' s j) hi
  have e2 := row_store s (s.xs.set i (at' s j)) j (at' s i) (by simpa using hj)
  have e3 : (rowV enc ((s.xs.set i (at' s j)).set j (at' s i) ++ s.g)).getD (0 + i * 3 + 1) (AV.v (Value.tuple { toList := [] })) = iv (at' s j).b := by rw [row_seq s _ i (by simpa using hi)]; exact congrArg (fun x => iv x.b) (swap_at_i s i j hi hj)
  have e4 : (rowV enc ((s.xs.set i (at' s j)).set j (at' s i) ++ s.g)).getD (0 + j * 3 + 1) (AV.v (Value.tuple { toList := [] })) = iv (at' s i).b := by rw [row_seq s _ j (by simpa using hj)]; exact congrArg (fun x => iv x.b) (swap_at_j s i j hi hj)
  have l1 : (rowV enc (s.xs ++ s.g)).length = (s.xs.length + s.g.length) * 3 := row_len s
  have l2 : (rowV enc (s.xs.set i (at' s j) ++ s.g)).length = (s.xs.length + s.g.length) * 3 := by rw [rowV_length enc_length, List.length_append, List.length_set]
  have l3 : (rowV enc ((s.xs.set i (at' s j)).set j (at' s i) ++ s.g)).length = (s.xs.length + s.g.length) * 3 := by rw [rowV_length enc_length, List.length_append, List.length_set, List.length_set]
  obtain ⟨m1, m2⟩ := ensE_mE (ev := iv) hM (at' s j).b (.v (.int .i64 (Int.ofNat 0)))
  obtain ⟨m3, m4⟩ := ensE_mE (ev := iv) (hM.mset (at' s j).b (i : Int)) (at' s i).b (.v (.int .i64 (Int.ofNat 0)))
  simp only [Cnd.holds, row_at s i hi, row_at s j hj, true_and, and_true, Nat.blt_eq, Nat.ble_eq, e3, e4, l1, l2, l3]
  and_intros
  all_goals first
    | exact Wk.refl _
    | exact ow_cells e1
    | exact ow_cells e2
    | exact ow_map (m2 _) (bumpE_mE ..)
    | exact ow_map (m4 _) (bumpE_mE ..)
    | exact findKey_mE intT _ _ _
    | exact staysS_mE _ _
    | exact m1
    | exact m3
    | omega
    | rfl
theorem len_tri (s : Ps) : Tri Try.prog default fLen [.ptr 0 0] [(0, pO s)] (iv (Int.ofNat s.xs.length)) [(0, pO s)] := by
  refine open_pile (tri_run (con := []) (hints := noHints) (lc := []) [0, 1001, 1002] rfl noC noL fun F => ?_)
  rw [oLen_eq]
  exact ⟨by simp only [Cnd.holds, and_self], fits_pile s [(1001, 1001), (1002, 1002)] (by kernel_rfl) (by kernel_rfl) (VW.refl _) ⟨trivial, trivial⟩ (objs_pile s rfl rfl rfl rfl rfl rfl)⟩
theorem fits_pile0 {ks : List Nat} {os : List (Option AO)} {u v : AV} (l : List (Nat × Nat)) (hk : keysIn pL0 l = true) (hi : injB (pL0.map (·.1)) (sg l) = true) (hv : VW [u] (AV.rens (sg l) [v])) (hc : AV.cls (fun i => Nat.blt i 1000) [v])
    (ho : ObjsOK ks os l pL0) : Fits ks [u] os [v] [(0, pO0)] := by
  refine ⟨[v], pL0, l, rfl, fit_mk l hk hi hv ho, ?_⟩
  have := Goes.shut (σ := Unit) (R := fun _ => True) (L := fun _ => pL0) (m := .pile0) (H0 := []) (vs := [v]) () trivial rfl ⟨_, _, rfl, rfl⟩ (by
    have e : (fun i => Nat.blt i 1000 || (getO ([] : LH) i).isSome) = fun i => Nat.blt i 1000 := by funext i; simp [getO]
    rw [e]; exact hc) (fun x hx => by cases hx)
  rwa [List.append_nil] at this
theorem len0_tri : Tri Try.prog default fLen [.ptr 0 0] [(0, pO0)] (iv (Int.ofNat 0)) [(0, pO0)] := by
  refine open_pile0 (tri_run (con := []) (hints := noHints) (lc := []) [0, 1002] rfl noC noL fun F => ?_)
  rw [oLen0_eq]
  exact ⟨by simp only [Cnd.holds, and_self], fits_pile0 [(1002, 1002)] (by kernel_rfl) (by kernel_rfl) (VW.refl _) ⟨trivial, trivial⟩ ⟨⟨_, rfl, OW.refl _⟩, ⟨_, rfl, OW.refl _⟩, trivial⟩⟩
def pushS (s : Ps) (x : It) : Ps := ⟨s.xs ++ [x], [], mset s.m s.ck x.b s.xs.length, mbump s.m s.ck x.b⟩
/-- There is room for one more. -/
def Room (s : Ps) : Prop := (s.xs.length + 1) * 24 ≤ 140737488355328
theorem push_tri (s : Ps) (x : It) (hR : Room s) : Tri Try.prog default fPush [.ptr 0 0, .iface 27 (itA x)] [(0, pO s)] (.tuple []) [(0, pO (pushS s x))] := by
  refine open_pile (tri_run (con := []) (hints := noHints) (lc := []) [0, 1001, 1002, 1100, 1101, 1102, 1103] rfl noC noL fun F => ?_)
  rw [oPush_eq]
  have hx : List.take (s.xs.length * 3) (List.drop 0 (rowV enc (s.xs ++ s.g))) = rowV enc s.xs := by
    rw [List.drop_zero, rowV_take enc_length]; simp
  have e1 : List.take (s.xs.length * 3) (List.drop 0 (rowV enc (s.xs ++ s.g))) ++ vmap (enc x) = rowV enc ((pushS s x).xs ++ (pushS s x).g) := by
    rw [hx, ← rowV_one (enc := enc), ← rowV_append]; simp [pushS]
  have e2 := setE_mE (ev := iv) x.b (s.xs.length : Int) s.m s.ck
  have hlen : (pushS s x).xs.length = s.xs.length + 1 := by simp [pushS]
  refine ⟨?_, fits_pile (pushS s x) [(1001, 1102), (1002, 1002)] (by kernel_rfl) (by kernel_rfl) (VW.refl _) ⟨trivial, trivial⟩ (objs_pile (pushS s x) rfl rfl rfl ?_ ?_ ?_)⟩
  · have hR' : (s.xs.length + 1) * 24 ≤ 140737488355328 := hR
    simp only [Cnd.holds, true_and, and_true, Nat.ble_eq, row_len, hx, rowV_length enc_length, List.length_append]
    and_intros
    all_goals first
      | rfl
      | exact findKey_mE intT _ _ _
      | exact staysS_mE _ _
      | omega
      | exact Nat.beq_refl _
  · rw [hlen]; rfl
  · exact congrArg (fun r => some (AO.cells r tIt)) e1
  · show some (AO.map (setE _ _ _ _) (bumpE _ _ _)) = _
    rw [bumpE_mE]
    exact congrArg (fun r => some (AO.map r _)) e2
theorem push0_tri (x : It) : Tri Try.prog default fPush [.ptr 0 0, .iface 27 (itA x)] [(0, pO0)] (.tuple []) [(0, pO (pushS ⟨[], [], [], 0⟩ x))] := by
  refine open_pile0 (tri_run (con := []) (hints := noHints) (lc := []) [0, 1002, 1100, 1101, 1102, 1103] rfl noC noL fun F => ?_)
  rw [oPush0_eq]
  refine ⟨?_, fits_pile _ [(1001, 1102), (1002, 1002)] (by kernel_rfl) (by kernel_rfl) (VW.refl _) ⟨trivial, trivial⟩ (objs_pile _ rfl rfl rfl rfl rfl rfl)⟩
  simp only [Cnd.holds, true_and, and_true]
  exact ⟨rfl, fun j v h => by cases h⟩
/-- The last item goes. -/
def popS (s : Ps) : Ps := ⟨s.xs.dropLast, at' s (s.xs.length - 1) :: s.g, mdel s.m (at' s (s.xs.length - 1)).b, s.ck⟩
theorem pop_tri (s : Ps) (h0 : 0 < s.xs.length) (hb : s.xs.length ≤ 9223372036854775807) : Tri Try.prog default fPop [.ptr 0 0] [(0, pO s)] (.iface 27 (itA (at' s (s.xs.length - 1)))) [(0, pO (popS s))] := by
  refine open_pile (tri_run (con := []) (hints := hPop s) (lc := []) [0, 1001, 1002] rfl noC noL fun F => ?_)
  rw [oPop_eq]
  have hxs : s.xs.dropLast ++ [at' s (s.xs.length - 1)] = s.xs := by
    have hne : s.xs ≠ [] := fun e => by rw [e] at h0; cases h0
    have : at' s (s.xs.length - 1) = s.xs.getLast hne := by
      rw [at', List.getD, List.getElem?_eq_getElem (by omega), List.getLast_eq_getElem]; rfl
    rw [this, List.dropLast_concat_getLast]
  have hrow : (popS s).xs ++ (popS s).g = s.xs ++ s.g := by
    show s.xs.dropLast ++ (at' s (s.xs.length - 1) :: s.g) = _
    rw [← List.singleton_append, ← List.append_assoc, hxs]
  have hl1 : (popS s).xs.length = s.xs.length - 1 := by simp [popS]
  have hl2 : (popS s).xs.length + (popS s).g.length = s.xs.length + s.g.length := by rw [← List.length_append, hrow, List.length_append]
  refine ⟨?_, fits_pile (popS s) [(1001, 1001), (1002, 1002)] (by kernel_rfl) (by kernel_rfl) (VW.refl _) ⟨⟨trivial, trivial, trivial, trivial⟩, trivial⟩ (objs_pile (popS s) rfl rfl rfl ?_ ?_ ?_)⟩
  · simp only [Cnd.holds, true_and, and_true, Nat.ble_eq, Nat.blt_eq, row_at s (s.xs.length - 1) (by omega)]
    have hwr : IntKind.i64.wrap ((s.xs.length : Int) - Int.ofNat 1) = Int.ofNat (s.xs.length - 1) := by
      rw [IntWalk.i64_in _ (by simp only [Int.ofNat_eq_natCast]; omega)]; simp only [Int.ofNat_eq_natCast]; omega
    and_intros
    all_goals first
      | exact Wk.refl _
      | exact wk_int hwr
      | exact findKey_mE intT _ _ _
      | omega
      | rfl
  · rw [hl2, hl1]; rfl
  · rw [hrow]; rfl
  · show some (AO.map (delE _ _) _) = _
    rw [delE_mE]; rfl
end Go.Proofs.Ytcpijmlaglcblaa.Rk

/- The pile's methods in a caller's hands; container/heap. -/
set_option linter.unusedVariables false
set_option linter.unusedSimpArgs false
set_option maxRecDepth 100000
namespace Go.Proofs.Ytcpijmlaglcblaa.Rk
open Go Go.RowKit Go.Proofs.Ytcpijmlaglcblaa.Eng
noncomputable section
def ownC (i : Nat) (k : Md → AP AV) : AP AV := .read i fun o => match o with
  | .own m _ => k m
  | _ => .fail "own"
/-- Less, Swap .. as calls on a whole pile. -/
def onPile (s : Ps) (A args : List AV) (i : Nat) (v : AV) (o : AO) : AP AV := useC (fun _ => i) A args [(0, pO s)] (.leaf .ret [v] [(0, o)])
def cLess : List AV → Option (AP AV) := fun args => match args with
    | [.ptr i 0, .v (.int .i64 a), .v (.int .i64 b)] => some (ownC i fun m => match m with
      | .pile s => .need (0 ≤ a ∧ a.toNat < s.xs.length ∧ 0 ≤ b ∧ b.toNat < s.xs.length) (onPile s [.ptr 0 0, iv a, iv b] args i (.v (.bool (ahead (at' s a.toNat) (at' s b.toNat)))) (pO s))
      | _ => .fail "pile")
    | _ => none
def cSwap : List AV → Option (AP AV) := fun args => match args with
    | [.ptr i 0, .v (.int .i64 a), .v (.int .i64 b)] => some (ownC i fun m => match m with
      | .pile s => .need (0 ≤ a ∧ a.toNat < s.xs.length ∧ 0 ≤ b ∧ b.toNat < s.xs.length ∧ MI s.m s.ck) (onPile s [.ptr 0 0, iv a, iv b] args i (.tuple []) (pO (swapS s a.toNat b.toNat)))
      | _ => .fail "pile")
    | _ => none
def cLen : List AV → Option (AP AV) := fun args => match args with
    | [.ptr i 0] => some (ownC i fun m => match m with
      | .pile s => onPile s [.ptr 0 0] args i (iv (Int.ofNat s.xs.length)) (pO s)
      | .pile0 => useC (fun _ => i) [.ptr 0 0] args [(0, pO0)] (.leaf .ret [iv (Int.ofNat 0)] [(0, pO0)])
      | _ => .fail "pile")
    | _ => none
def cPush : List AV → Option (AP AV) := fun args => match args with
    | [.ptr i 0, .iface t (.agg [.v (.int .i64 a), .v (.int .i64 b), .v (.int .i64 c)])] => some (.need (t = 27) (ownC i fun m => match m with
      | .pile s => .need (Room s) (onPile s [.ptr 0 0, .iface 27 (itA ⟨a, b, c⟩)] args i (.tuple []) (pO (pushS s ⟨a, b, c⟩)))
      | .pile0 => useC (fun _ => i) [.ptr 0 0, .iface 27 (itA ⟨a, b, c⟩)] args [(0, pO0)] (.leaf .ret [.tuple []] [(0, pO (pushS ⟨[], [], [], 0⟩ ⟨a, b, c⟩))])
      | _ => .fail "pile"))
    | _ => none
def cPop : List AV → Option (AP AV) := fun args => match args with
    | [.ptr i 0] => some (ownC i fun m => match m with
      | .pile s => .need (0 < s.xs.length ∧ s.xs.length ≤ 9223372036854775807) (onPile s [.ptr 0 0] args i (.iface 27 (itA (at' s (s.xs.length - 1)))) (pO (popS s)))
      | _ => .fail "pile")
    | _ => none
def conP : List (FuncId × (List AV → Option (AP AV))) := [(fLess, cLess), (fSwap, cSwap), (fLen, cLen), (fPush, cPush), (fPop, cPop)]
/-- A loop of a function. -/
def loopIn : Code → Option Code
  | .loop b => some b
  | .seq a b => match loopIn a with | some c => some c | none => loopIn b
  | .cond _ a b => match loopIn a with | some c => some c | none => loopIn b
  | .block _ b | .scope b => loopIn b
  | _ => none
def loopOf (f : FuncId) : Code := ((Try.prog.funcs[f]?).bind fun fn => fn.body.bind loopIn).getD .skip
abbrev fUp : Nat := 25
abbrev fDown : Nat := 26
def lRun (con : List (FuncId × (List AV → Option (AP AV)))) (hints : ClaimT) (lc : List (FuncId × Nat × Code × (List AV → AP (AX × List AV)))) (g : FuncId) (b : Code) (A : List AV) (H : LH) (ks : List Nat) (F : HP) : VT (AX × List AV) := ((runCode Try.prog (env0 con hints lc F) 1000 g b A).run2 (heapOf H) 1100 []).view ks
def hI : AV := .iface 53 (.ptr 0 0)
def upA (j : Nat) : List AV := hI :: iv (Int.ofNat j) :: anys 21
def hUp (j : Nat) : ClaimT := hintL [(fUp, 0, 2, hv (iv (Int.ofNat ((j - 1) / 2))))]
theorem oUp_eq (s : Ps) (j : Nat) (F : HP) : lRun conP (hUp j) [] fUp (loopOf fUp) (upA j) [(0, pO s)] [0] F = VT.ite (Int.ofNat ((j - 1) / 2) == Int.ofNat j) (VT.leaf (AX.exit 0, [AV.iface 53 (AV.ptr 0 0), AV.v (Value.int IntKind.i64 (Int.ofNat j)), AV.any, AV.any, AV.v (Value.int IntKind.i64 (Int.ofNat ((j - 1) / 2))), AV.v (Value.int IntKind.i64 (Int.ofNat j)), AV.v (Value.int IntKind.i64 (IntKind.i64.wrap (Int.ofNat j - Int.ofNat 1))), AV.v (Value.int IntKind.i64 (Int.ofNat ((j - 1) / 2))), AV.v (Value.int IntKind.i64 (Int.ofNat ((j - 1) / 2))), AV.v (Value.int IntKind.i64 (Int.ofNat j)), AV.v (Value.bool (Int.ofNat ((j - 1) / 2) == Int.ofNat j)), AV.lit true, AV.v (Value.tuple (Array.mk [])), AV.v (Value.tuple (Array.mk [])), AV.v (Value.tuple (Array.mk [])), AV.v (Value.tuple (Array.mk [])), AV.v (Value.tuple (Array.mk [])), AV.lit true, AV.any, AV.any, AV.any, AV.any, AV.any]) [some (AO.own (Md.pile s) (pH s))] 1100 (((Cnd.p (Wk (AV.v (Value.int IntKind.i64 (IntKind.i64.wrap ((IntKind.i64.wrap (Int.ofNat j - Int.ofNat 1)).tdiv (Int.ofNat 2))))) (AV.v (Value.int IntKind.i64 (Int.ofNat ((j - 1) / 2)))))).a Cnd.t).a Cnd.t)) (VT.ite (!ahead (at' s j) (at' s (Int.ofNat ((j - 1) / 2)).toNat)) (VT.leaf (AX.exit 0, [AV.iface 53 (AV.ptr 0 0), AV.v (Value.int IntKind.i64 (Int.ofNat j)), AV.any, AV.any, AV.v (Value.int IntKind.i64 (Int.ofNat ((j - 1) / 2))), AV.v (Value.int IntKind.i64 (Int.ofNat j)), AV.v (Value.int IntKind.i64 (IntKind.i64.wrap (Int.ofNat j - Int.ofNat 1))), AV.v (Value.int IntKind.i64 (Int.ofNat ((j - 1) / 2))), AV.v (Value.int IntKind.i64 (Int.ofNat ((j - 1) / 2))), AV.v (Value.int IntKind.i64 (Int.ofNat j)), AV.v (Value.bool (Int.ofNat ((j - 1) / 2) == Int.ofNat j)), AV.lit false, AV.iface 53 (AV.ptr 0 0), AV.v (Value.int IntKind.i64 (Int.ofNat j)), AV.v (Value.int IntKind.i64 (Int.ofNat ((j - 1) / 2))), AV.v (Value.bool (ahead (at' s j) (at' s (Int.ofNat ((j - 1) / 2)).toNat))), AV.v (Value.bool !ahead (at' s j) (at' s (Int.ofNat ((j - 1) / 2)).toNat)), AV.lit true, AV.any, AV.any, AV.any, AV.any, AV.any]) [some (AO.own (Md.pile s) (pH s))] 1100 (((Cnd.p (Wk (AV.v (Value.int IntKind.i64 (IntKind.i64.wrap ((IntKind.i64.wrap (Int.ofNat j - Int.ofNat 1)).tdiv (Int.ofNat 2))))) (AV.v (Value.int IntKind.i64 (Int.ofNat ((j - 1) / 2)))))).a Cnd.t).a (((Cnd.p (Int.ofNat 0 ≤ Int.ofNat j ∧ j < s.xs.length ∧ Int.ofNat 0 ≤ Int.ofNat ((j - 1) / 2) ∧ (Int.ofNat ((j - 1) / 2)).toNat < s.xs.length)).a ((Cnd.p (VW [AV.ptr 0 0, AV.v (Value.int IntKind.i64 (Int.ofNat j)), AV.v (Value.int IntKind.i64 (Int.ofNat ((j - 1) / 2)))] [AV.ptr 0 0, AV.v (Value.int IntKind.i64 (Int.ofNat j)), AV.v (Value.int IntKind.i64 (Int.ofNat ((j - 1) / 2)))])).a ((Cnd.p (OW (AO.own (Md.pile s) (pH s)) (AO.own (Md.pile s) (pH s)))).a Cnd.t))).a Cnd.t))) (VT.leaf (AX.normal, [AV.iface 53 (AV.ptr 0 0), AV.v (Value.int IntKind.i64 (Int.ofNat ((j - 1) / 2))), AV.any, AV.any, AV.v (Value.int IntKind.i64 (Int.ofNat ((j - 1) / 2))), AV.v (Value.int IntKind.i64 (Int.ofNat j)), AV.v (Value.int IntKind.i64 (IntKind.i64.wrap (Int.ofNat j - Int.ofNat 1))), AV.v (Value.int IntKind.i64 (Int.ofNat ((j - 1) / 2))), AV.v (Value.int IntKind.i64 (Int.ofNat ((j - 1) / 2))), AV.v (Value.int IntKind.i64 (Int.ofNat j)), AV.v (Value.bool (Int.ofNat ((j - 1) / 2) == Int.ofNat j)), AV.lit false, AV.iface 53 (AV.ptr 0 0), AV.v (Value.int IntKind.i64 (Int.ofNat j)), AV.v (Value.int IntKind.i64 (Int.ofNat ((j - 1) / 2))), AV.v (Value.bool (ahead (at' s j) (at' s (Int.ofNat ((j - 1) / 2)).toNat))), AV.v (Value.bool !ahead (at' s j) (at' s (Int.ofNat ((j - 1) / 2)).toNat)), AV.lit false, AV.iface 53 (AV.ptr 0 0), AV.v (Value.int IntKind.i64 (Int.ofNat ((j - 1) / 2))), AV.v (Value.int IntKind.i64 (Int.ofNat j)), AV.tuple [], AV.v (Value.int IntKind.i64 (Int.ofNat ((j - 1) / 2)))]) [some (AO.own (Md.pile (swapS s (Int.ofNat ((j - 1) / 2)).toNat j)) (pH (swapS s (Int.ofNat ((j - 1) / 2)).toNat j)))] 1100 (((Cnd.p (Wk (AV.v (Value.int IntKind.i64 (IntKind.i64.wrap ((IntKind.i64.wrap (Int.ofNat j - Int.ofNat 1)).tdiv (Int.ofNat 2))))) (AV.v (Value.int IntKind.i64 (Int.ofNat ((j - 1) / 2)))))).a Cnd.t).a (((Cnd.p (Int.ofNat 0 ≤ Int.ofNat j ∧ j < s.xs.length ∧ Int.ofNat 0 ≤ Int.ofNat ((j - 1) / 2) ∧ (Int.ofNat ((j - 1) / 2)).toNat < s.xs.length)).a ((Cnd.p (VW [AV.ptr 0 0, AV.v (Value.int IntKind.i64 (Int.ofNat j)), AV.v (Value.int IntKind.i64 (Int.ofNat ((j - 1) / 2)))] [AV.ptr 0 0, AV.v (Value.int IntKind.i64 (Int.ofNat j)), AV.v (Value.int IntKind.i64 (Int.ofNat ((j - 1) / 2)))])).a ((Cnd.p (OW (AO.own (Md.pile s) (pH s)) (AO.own (Md.pile s) (pH s)))).a Cnd.t))).a (((Cnd.p (Int.ofNat 0 ≤ Int.ofNat ((j - 1) / 2) ∧ (Int.ofNat ((j - 1) / 2)).toNat < s.xs.length ∧ Int.ofNat 0 ≤ Int.ofNat j ∧ j < s.xs.length ∧ MI s.m s.ck)).a ((Cnd.p (VW [AV.ptr 0 0, AV.v (Value.int IntKind.i64 (Int.ofNat ((j - 1) / 2))), AV.v (Value.int IntKind.i64 (Int.ofNat j))] [AV.ptr 0 0, AV.v (Value.int IntKind.i64 (Int.ofNat ((j - 1) / 2))), AV.v (Value.int IntKind.i64 (Int.ofNat j))])).a ((Cnd.p (OW (AO.own (Md.pile s) (pH s)) (AO.own (Md.pile s) (pH s)))).a Cnd.t))).a Cnd.t))))) := by kernel_rfl
def upS (s : Ps) (j : Nat) : Ps := if h : j = 0 then s else if ahead (at' s j) (at' s ((j - 1) / 2)) = true then upS (swapS s ((j - 1) / 2) j) ((j - 1) / 2) else s
  termination_by j
  decreasing_by omega
def downA (i0 n i : Nat) : List AV := hI :: iv (Int.ofNat i0) :: iv (Int.ofNat n) :: .any :: .any :: .any :: .any :: iv (Int.ofNat i) :: anys 40
def hDown (i : Nat) : ClaimT := hintL [(fDown, 2, 2, hv (iv (Int.ofNat (2 * i + 1)))), (fDown, 5, 1, hv (iv (Int.ofNat (2 * i + 2))))]
theorem oDown_eq (s : Ps) (i0 n i : Nat) (F : HP) : lRun conP (hDown i) [] fDown (loopOf fDown) (downA i0 n i) [(0, pO s)] [0] F = VT.ite (decide (Int.ofNat (2 * i + 1) ≥ Int.ofNat n)) (VT.leaf (AX.exit 0, [AV.iface 53 (AV.ptr 0 0), AV.v (Value.int IntKind.i64 (Int.ofNat i0)), AV.v (Value.int IntKind.i64 (Int.ofNat n)), AV.any, AV.any, AV.any, AV.any, AV.v (Value.int IntKind.i64 (Int.ofNat i)), AV.v (Value.int IntKind.i64 (Int.ofNat (2 * i + 1))), AV.any, AV.any, AV.any, AV.v (Value.int IntKind.i64 (Int.ofNat i)), AV.v (Value.int IntKind.i64 (IntKind.i64.wrap (Int.ofNat 2 * Int.ofNat i))), AV.v (Value.int IntKind.i64 (Int.ofNat (2 * i + 1))), AV.v (Value.int IntKind.i64 (Int.ofNat (2 * i + 1))), AV.v (Value.int IntKind.i64 (Int.ofNat n)), AV.v (Value.bool (decide (Int.ofNat (2 * i + 1) ≥ Int.ofNat n))), AV.lit true, AV.v (Value.tuple (Array.mk [])), AV.v (Value.tuple (Array.mk [])), AV.lit true, AV.any, AV.any, AV.any, AV.any, AV.any, AV.any, AV.any, AV.any, AV.any, AV.any, AV.any, AV.any, AV.any, AV.any, AV.any, AV.any, AV.any, AV.any, AV.any, AV.any, AV.any, AV.any, AV.any, AV.any, AV.any, AV.any]) [some (AO.own (Md.pile s) (pH s))] 1100 (((Cnd.p (Wk (AV.v (Value.int IntKind.i64 (IntKind.i64.wrap (IntKind.i64.wrap (Int.ofNat 2 * Int.ofNat i) + Int.ofNat 1)))) (AV.v (Value.int IntKind.i64 (Int.ofNat (2 * i + 1)))))).a Cnd.t).a Cnd.t)) (VT.ite false (VT.leaf (AX.exit 0, [AV.iface 53 (AV.ptr 0 0), AV.v (Value.int IntKind.i64 (Int.ofNat i0)), AV.v (Value.int IntKind.i64 (Int.ofNat n)), AV.any, AV.any, AV.any, AV.any, AV.v (Value.int IntKind.i64 (Int.ofNat i)), AV.v (Value.int IntKind.i64 (Int.ofNat (2 * i + 1))), AV.any, AV.any, AV.any, AV.v (Value.int IntKind.i64 (Int.ofNat i)), AV.v (Value.int IntKind.i64 (IntKind.i64.wrap (Int.ofNat 2 * Int.ofNat i))), AV.v (Value.int IntKind.i64 (Int.ofNat (2 * i + 1))), AV.v (Value.int IntKind.i64 (Int.ofNat (2 * i + 1))), AV.v (Value.int IntKind.i64 (Int.ofNat n)), AV.v (Value.bool (decide (Int.ofNat (2 * i + 1) ≥ Int.ofNat n))), AV.lit false, AV.v (Value.int IntKind.i64 (Int.ofNat (2 * i + 1))), AV.v (Value.bool false), AV.lit true, AV.any, AV.any, AV.any, AV.any, AV.any, AV.any, AV.any, AV.any, AV.any, AV.any, AV.any, AV.any, AV.any, AV.any, AV.any, AV.any, AV.any, AV.any, AV.any, AV.any, AV.any, AV.any, AV.any, AV.any, AV.any, AV.any]) [some (AO.own (Md.pile s) (pH s))] 1100 (((Cnd.p (Wk (AV.v (Value.int IntKind.i64 (IntKind.i64.wrap (IntKind.i64.wrap (Int.ofNat 2 * Int.ofNat i) + Int.ofNat 1)))) (AV.v (Value.int IntKind.i64 (Int.ofNat (2 * i + 1)))))).a Cnd.t).a Cnd.t)) (VT.ite (decide (Int.ofNat (2 * i + 2) < Int.ofNat n)) (VT.ite (ahead (at' s (Int.ofNat (2 * i + 2)).toNat) (at' s (Int.ofNat (2 * i + 1)).toNat)) (VT.ite (!ahead (at' s (Int.ofNat (2 * i + 2)).toNat) (at' s i)) (VT.leaf (AX.exit 0, [AV.iface 53 (AV.ptr 0 0), AV.v (Value.int IntKind.i64 (Int.ofNat i0)), AV.v (Value.int IntKind.i64 (Int.ofNat n)), AV.any, AV.any, AV.any, AV.any, AV.v (Value.int IntKind.i64 (Int.ofNat i)), AV.v (Value.int IntKind.i64 (Int.ofNat (2 * i + 1))), AV.v (Value.int IntKind.i64 (Int.ofNat (2 * i + 2))), AV.v (Value.int IntKind.i64 (Int.ofNat (2 * i + 2))), AV.any, AV.v (Value.int IntKind.i64 (Int.ofNat i)), AV.v (Value.int IntKind.i64 (IntKind.i64.wrap (Int.ofNat 2 * Int.ofNat i))), AV.v (Value.int IntKind.i64 (Int.ofNat (2 * i + 1))), AV.v (Value.int IntKind.i64 (Int.ofNat (2 * i + 1))), AV.v (Value.int IntKind.i64 (Int.ofNat n)), AV.v (Value.bool (decide (Int.ofNat (2 * i + 1) ≥ Int.ofNat n))), AV.lit false, AV.v (Value.int IntKind.i64 (Int.ofNat (2 * i + 1))), AV.v (Value.bool false), AV.lit false, AV.v (Value.int IntKind.i64 (Int.ofNat (2 * i + 1))), AV.v (Value.int IntKind.i64 (Int.ofNat (2 * i + 1))), AV.v (Value.int IntKind.i64 (Int.ofNat (2 * i + 2))), AV.v (Value.int IntKind.i64 (Int.ofNat (2 * i + 2))), AV.v (Value.int IntKind.i64 (Int.ofNat n)), AV.v (Value.bool (decide (Int.ofNat (2 * i + 2) < Int.ofNat n))), AV.lit true, AV.iface 53 (AV.ptr 0 0), AV.v (Value.int IntKind.i64 (Int.ofNat (2 * i + 2))), AV.v (Value.int IntKind.i64 (Int.ofNat (2 * i + 1))), AV.v (Value.bool (ahead (at' s (Int.ofNat (2 * i + 2)).toNat) (at' s (Int.ofNat (2 * i + 1)).toNat))), AV.lit true, AV.v (Value.int IntKind.i64 (Int.ofNat (2 * i + 2))), AV.iface 53 (AV.ptr 0 0), AV.v (Value.int IntKind.i64 (Int.ofNat (2 * i + 2))), AV.v (Value.int IntKind.i64 (Int.ofNat i)), AV.v (Value.bool (ahead (at' s (Int.ofNat (2 * i + 2)).toNat) (at' s i))), AV.lit true, AV.any, AV.any, AV.any, AV.any, AV.any, AV.any, AV.any, AV.any]) [some (AO.own (Md.pile s) (pH s))] 1100 (((Cnd.p (Wk (AV.v (Value.int IntKind.i64 (IntKind.i64.wrap (IntKind.i64.wrap (Int.ofNat 2 * Int.ofNat i) + Int.ofNat 1)))) (AV.v (Value.int IntKind.i64 (Int.ofNat (2 * i + 1)))))).a Cnd.t).a (((Cnd.p (Wk (AV.v (Value.int IntKind.i64 (IntKind.i64.wrap (Int.ofNat (2 * i + 1) + Int.ofNat 1)))) (AV.v (Value.int IntKind.i64 (Int.ofNat (2 * i + 2)))))).a Cnd.t).a (((Cnd.p (Int.ofNat 0 ≤ Int.ofNat (2 * i + 2) ∧ (Int.ofNat (2 * i + 2)).toNat < s.xs.length ∧ Int.ofNat 0 ≤ Int.ofNat (2 * i + 1) ∧ (Int.ofNat (2 * i + 1)).toNat < s.xs.length)).a ((Cnd.p (VW [AV.ptr 0 0, AV.v (Value.int IntKind.i64 (Int.ofNat (2 * i + 2))), AV.v (Value.int IntKind.i64 (Int.ofNat (2 * i + 1)))] [AV.ptr 0 0, AV.v (Value.int IntKind.i64 (Int.ofNat (2 * i + 2))), AV.v (Value.int IntKind.i64 (Int.ofNat (2 * i + 1)))])).a ((Cnd.p (OW (AO.own (Md.pile s) (pH s)) (AO.own (Md.pile s) (pH s)))).a Cnd.t))).a (((Cnd.p (Int.ofNat 0 ≤ Int.ofNat (2 * i + 2) ∧ (Int.ofNat (2 * i + 2)).toNat < s.xs.length ∧ Int.ofNat 0 ≤ Int.ofNat i ∧ i < s.xs.length)).a ((Cnd.p (VW [AV.ptr 0 0, AV.v (Value.int IntKind.i64 (Int.ofNat (2 * i + 2))), AV.v (Value.int IntKind.i64 (Int.ofNat i))] [AV.ptr 0 0, AV.v (Value.int IntKind.i64 (Int.ofNat (2 * i + 2))), AV.v (Value.int IntKind.i64 (Int.ofNat i))])).a ((Cnd.p (OW (AO.own (Md.pile s) (pH s)) (AO.own (Md.pile s) (pH s)))).a Cnd.t))).a Cnd.t))))) (VT.leaf (AX.normal, [AV.iface 53 (AV.ptr 0 0), AV.v (Value.int IntKind.i64 (Int.ofNat i0)), AV.v (Value.int IntKind.i64 (Int.ofNat n)), AV.any, AV.any, AV.any, AV.any, AV.v (Value.int IntKind.i64 (Int.ofNat (2 * i + 2))), AV.v (Value.int IntKind.i64 (Int.ofNat (2 * i + 1))), AV.v (Value.int IntKind.i64 (Int.ofNat (2 * i + 2))), AV.v (Value.int IntKind.i64 (Int.ofNat (2 * i + 2))), AV.any, AV.v (Value.int IntKind.i64 (Int.ofNat i)), AV.v (Value.int IntKind.i64 (IntKind.i64.wrap (Int.ofNat 2 * Int.ofNat i))), AV.v (Value.int IntKind.i64 (Int.ofNat (2 * i + 1))), AV.v (Value.int IntKind.i64 (Int.ofNat (2 * i + 1))), AV.v (Value.int IntKind.i64 (Int.ofNat n)), AV.v (Value.bool (decide (Int.ofNat (2 * i + 1) ≥ Int.ofNat n))), AV.lit false, AV.v (Value.int IntKind.i64 (Int.ofNat (2 * i + 1))), AV.v (Value.bool false), AV.lit false, AV.v (Value.int IntKind.i64 (Int.ofNat (2 * i + 1))), AV.v (Value.int IntKind.i64 (Int.ofNat (2 * i + 1))), AV.v (Value.int IntKind.i64 (Int.ofNat (2 * i + 2))), AV.v (Value.int IntKind.i64 (Int.ofNat (2 * i + 2))), AV.v (Value.int IntKind.i64 (Int.ofNat n)), AV.v (Value.bool (decide (Int.ofNat (2 * i + 2) < Int.ofNat n))), AV.lit true, AV.iface 53 (AV.ptr 0 0), AV.v (Value.int IntKind.i64 (Int.ofNat (2 * i + 2))), AV.v (Value.int IntKind.i64 (Int.ofNat (2 * i + 1))), AV.v (Value.bool (ahead (at' s (Int.ofNat (2 * i + 2)).toNat) (at' s (Int.ofNat (2 * i + 1)).toNat))), AV.lit true, AV.v (Value.int IntKind.i64 (Int.ofNat (2 * i + 2))), AV.iface 53 (AV.ptr 0 0), AV.v (Value.int IntKind.i64 (Int.ofNat (2 * i + 2))), AV.v (Value.int IntKind.i64 (Int.ofNat i)), AV.v (Value.bool (ahead (at' s (Int.ofNat (2 * i + 2)).toNat) (at' s i))), AV.lit false, AV.iface 53 (AV.ptr 0 0), AV.v (Value.int IntKind.i64 (Int.ofNat i)), AV.v (Value.int IntKind.i64 (Int.ofNat (2 * i + 2))), AV.tuple [], AV.v (Value.int IntKind.i64 (Int.ofNat (2 * i + 2))), AV.any, AV.any, AV.any]) [some (AO.own (Md.pile (swapS s i (Int.ofNat (2 * i + 2)).toNat)) (pH (swapS s i (Int.ofNat (2 * i + 2)).toNat)))] 1100 (((Cnd.p (Wk (AV.v (Value.int IntKind.i64 (IntKind.i64.wrap (IntKind.i64.wrap (Int.ofNat 2 * Int.ofNat i) + Int.ofNat 1)))) (AV.v (Value.int IntKind.i64 (Int.ofNat (2 * i + 1)))))).a Cnd.t).a (((Cnd.p (Wk (AV.v (Value.int IntKind.i64 (IntKind.i64.wrap (Int.ofNat (2 * i + 1) + Int.ofNat 1)))) (AV.v (Value.int IntKind.i64 (Int.ofNat (2 * i + 2)))))).a Cnd.t).a (((Cnd.p (Int.ofNat 0 ≤ Int.ofNat (2 * i + 2) ∧ (Int.ofNat (2 * i + 2)).toNat < s.xs.length ∧ Int.ofNat 0 ≤ Int.ofNat (2 * i + 1) ∧ (Int.ofNat (2 * i + 1)).toNat < s.xs.length)).a ((Cnd.p (VW [AV.ptr 0 0, AV.v (Value.int IntKind.i64 (Int.ofNat (2 * i + 2))), AV.v (Value.int IntKind.i64 (Int.ofNat (2 * i + 1)))] [AV.ptr 0 0, AV.v (Value.int IntKind.i64 (Int.ofNat (2 * i + 2))), AV.v (Value.int IntKind.i64 (Int.ofNat (2 * i + 1)))])).a ((Cnd.p (OW (AO.own (Md.pile s) (pH s)) (AO.own (Md.pile s) (pH s)))).a Cnd.t))).a (((Cnd.p (Int.ofNat 0 ≤ Int.ofNat (2 * i + 2) ∧ (Int.ofNat (2 * i + 2)).toNat < s.xs.length ∧ Int.ofNat 0 ≤ Int.ofNat i ∧ i < s.xs.length)).a ((Cnd.p (VW [AV.ptr 0 0, AV.v (Value.int IntKind.i64 (Int.ofNat (2 * i + 2))), AV.v (Value.int IntKind.i64 (Int.ofNat i))] [AV.ptr 0 0, AV.v (Value.int IntKind.i64 (Int.ofNat (2 * i + 2))), AV.v (Value.int IntKind.i64 (Int.ofNat i))])).a ((Cnd.p (OW (AO.own (Md.pile s) (pH s)) (AO.own (Md.pile s) (pH s)))).a Cnd.t))).a (((Cnd.p (Int.ofNat 0 ≤ Int.ofNat i ∧ i < s.xs.length ∧ Int.ofNat 0 ≤ Int.ofNat (2 * i + 2) ∧ (Int.ofNat (2 * i + 2)).toNat < s.xs.length ∧ MI s.m s.ck)).a ((Cnd.p (VW [AV.ptr 0 0, AV.v (Value.int IntKind.i64 (Int.ofNat i)), AV.v (Value.int IntKind.i64 (Int.ofNat (2 * i + 2)))] [AV.ptr 0 0, AV.v (Value.int IntKind.i64 (Int.ofNat i)), AV.v (Value.int IntKind.i64 (Int.ofNat (2 * i + 2)))])).a ((Cnd.p (OW (AO.own (Md.pile s) (pH s)) (AO.own (Md.pile s) (pH s)))).a Cnd.t))).a Cnd.t))))))) (VT.ite (!ahead (at' s (Int.ofNat (2 * i + 1)).toNat) (at' s i)) (VT.leaf (AX.exit 0, [AV.iface 53 (AV.ptr 0 0), AV.v (Value.int IntKind.i64 (Int.ofNat i0)), AV.v (Value.int IntKind.i64 (Int.ofNat n)), AV.any, AV.any, AV.any, AV.any, AV.v (Value.int IntKind.i64 (Int.ofNat i)), AV.v (Value.int IntKind.i64 (Int.ofNat (2 * i + 1))), AV.v (Value.int IntKind.i64 (Int.ofNat (2 * i + 1))), AV.v (Value.int IntKind.i64 (Int.ofNat (2 * i + 2))), AV.any, AV.v (Value.int IntKind.i64 (Int.ofNat i)), AV.v (Value.int IntKind.i64 (IntKind.i64.wrap (Int.ofNat 2 * Int.ofNat i))), AV.v (Value.int IntKind.i64 (Int.ofNat (2 * i + 1))), AV.v (Value.int IntKind.i64 (Int.ofNat (2 * i + 1))), AV.v (Value.int IntKind.i64 (Int.ofNat n)), AV.v (Value.bool (decide (Int.ofNat (2 * i + 1) ≥ Int.ofNat n))), AV.lit false, AV.v (Value.int IntKind.i64 (Int.ofNat (2 * i + 1))), AV.v (Value.bool false), AV.lit false, AV.v (Value.int IntKind.i64 (Int.ofNat (2 * i + 1))), AV.v (Value.int IntKind.i64 (Int.ofNat (2 * i + 1))), AV.v (Value.int IntKind.i64 (Int.ofNat (2 * i + 2))), AV.v (Value.int IntKind.i64 (Int.ofNat (2 * i + 2))), AV.v (Value.int IntKind.i64 (Int.ofNat n)), AV.v (Value.bool (decide (Int.ofNat (2 * i + 2) < Int.ofNat n))), AV.lit true, AV.iface 53 (AV.ptr 0 0), AV.v (Value.int IntKind.i64 (Int.ofNat (2 * i + 2))), AV.v (Value.int IntKind.i64 (Int.ofNat (2 * i + 1))), AV.v (Value.bool (ahead (at' s (Int.ofNat (2 * i + 2)).toNat) (at' s (Int.ofNat (2 * i + 1)).toNat))), AV.lit false, AV.any, AV.iface 53 (AV.ptr 0 0), AV.v (Value.int IntKind.i64 (Int.ofNat (2 * i + 1))), AV.v (Value.int IntKind.i64 (Int.ofNat i)), AV.v (Value.bool (ahead (at' s (Int.ofNat (2 * i + 1)).toNat) (at' s i))), AV.lit true, AV.any, AV.any, AV.any, AV.any, AV.any, AV.any, AV.any, AV.any]) [some (AO.own (Md.pile s) (pH s))] 1100 (((Cnd.p (Wk (AV.v (Value.int IntKind.i64 (IntKind.i64.wrap (IntKind.i64.wrap (Int.ofNat 2 * Int.ofNat i) + Int.ofNat 1)))) (AV.v (Value.int IntKind.i64 (Int.ofNat (2 * i + 1)))))).a Cnd.t).a (((Cnd.p (Wk (AV.v (Value.int IntKind.i64 (IntKind.i64.wrap (Int.ofNat (2 * i + 1) + Int.ofNat 1)))) (AV.v (Value.int IntKind.i64 (Int.ofNat (2 * i + 2)))))).a Cnd.t).a (((Cnd.p (Int.ofNat 0 ≤ Int.ofNat (2 * i + 2) ∧ (Int.ofNat (2 * i + 2)).toNat < s.xs.length ∧ Int.ofNat 0 ≤ Int.ofNat (2 * i + 1) ∧ (Int.ofNat (2 * i + 1)).toNat < s.xs.length)).a ((Cnd.p (VW [AV.ptr 0 0, AV.v (Value.int IntKind.i64 (Int.ofNat (2 * i + 2))), AV.v (Value.int IntKind.i64 (Int.ofNat (2 * i + 1)))] [AV.ptr 0 0, AV.v (Value.int IntKind.i64 (Int.ofNat (2 * i + 2))), AV.v (Value.int IntKind.i64 (Int.ofNat (2 * i + 1)))])).a ((Cnd.p (OW (AO.own (Md.pile s) (pH s)) (AO.own (Md.pile s) (pH s)))).a Cnd.t))).a (((Cnd.p (Int.ofNat 0 ≤ Int.ofNat (2 * i + 1) ∧ (Int.ofNat (2 * i + 1)).toNat < s.xs.length ∧ Int.ofNat 0 ≤ Int.ofNat i ∧ i < s.xs.length)).a ((Cnd.p (VW [AV.ptr 0 0, AV.v (Value.int IntKind.i64 (Int.ofNat (2 * i + 1))), AV.v (Value.int IntKind.i64 (Int.ofNat i))] [AV.ptr 0 0, AV.v (Value.int IntKind.i64 (Int.ofNat (2 * i + 1))), AV.v (Value.int IntKind.i64 (Int.ofNat i))])).a ((Cnd.p (OW (AO.own (Md.pile s) (pH s)) (AO.own (Md.pile s) (pH s)))).a Cnd.t))).a Cnd.t))))) (VT.leaf (AX.normal, [AV.iface 53 (AV.ptr 0 0), AV.v (Value.int IntKind.i64 (Int.ofNat i0)), AV.v (Value.int IntKind.i64 (Int.ofNat n)), AV.any, AV.any, AV.any, AV.any, AV.v (Value.int IntKind.i64 (Int.ofNat (2 * i + 1))), AV.v (Value.int IntKind.i64 (Int.ofNat (2 * i + 1))), AV.v (Value.int IntKind.i64 (Int.ofNat (2 * i + 1))), AV.v (Value.int IntKind.i64 (Int.ofNat (2 * i + 2))), AV.any, AV.v (Value.int IntKind.i64 (Int.ofNat i)), AV.v (Value.int IntKind.i64 (IntKind.i64.wrap (Int.ofNat 2 * Int.ofNat i))), AV.v (Value.int IntKind.i64 (Int.ofNat (2 * i + 1))), AV.v (Value.int IntKind.i64 (Int.ofNat (2 * i + 1))), AV.v (Value.int IntKind.i64 (Int.ofNat n)), AV.v (Value.bool (decide (Int.ofNat (2 * i + 1) ≥ Int.ofNat n))), AV.lit false, AV.v (Value.int IntKind.i64 (Int.ofNat (2 * i + 1))), AV.v (Value.bool false), AV.lit false, AV.v (Value.int IntKind.i64 (Int.ofNat (2 * i + 1))), AV.v (Value.int IntKind.i64 (Int.ofNat (2 * i + 1))), AV.v (Value.int IntKind.i64 (Int.ofNat (2 * i + 2))), AV.v (Value.int IntKind.i64 (Int.ofNat (2 * i + 2))), AV.v (Value.int IntKind.i64 (Int.ofNat n)), AV.v (Value.bool (decide (Int.ofNat (2 * i + 2) < Int.ofNat n))), AV.lit true, AV.iface 53 (AV.ptr 0 0), AV.v (Value.int IntKind.i64 (Int.ofNat (2 * i + 2))), AV.v (Value.int IntKind.i64 (Int.ofNat (2 * i + 1))), AV.v (Value.bool (ahead (at' s (Int.ofNat (2 * i + 2)).toNat) (at' s (Int.ofNat (2 * i + 1)).toNat))), AV.lit false, AV.any, AV.iface 53 (AV.ptr 0 0), AV.v (Value.int IntKind.i64 (Int.ofNat (2 * i + 1))), AV.v (Value.int IntKind.i64 (Int.ofNat i)), AV.v (Value.bool (ahead (at' s (Int.ofNat (2 * i + 1)).toNat) (at' s i))), AV.lit false, AV.iface 53 (AV.ptr 0 0), AV.v (Value.int IntKind.i64 (Int.ofNat i)), AV.v (Value.int IntKind.i64 (Int.ofNat (2 * i + 1))), AV.tuple [], AV.v (Value.int IntKind.i64 (Int.ofNat (2 * i + 1))), AV.any, AV.any, AV.any]) [some (AO.own (Md.pile (swapS s i (Int.ofNat (2 * i + 1)).toNat)) (pH (swapS s i (Int.ofNat (2 * i + 1)).toNat)))] 1100 (((Cnd.p (Wk (AV.v (Value.int IntKind.i64 (IntKind.i64.wrap (IntKind.i64.wrap (Int.ofNat 2 * Int.ofNat i) + Int.ofNat 1)))) (AV.v (Value.int IntKind.i64 (Int.ofNat (2 * i + 1)))))).a Cnd.t).a (((Cnd.p (Wk (AV.v (Value.int IntKind.i64 (IntKind.i64.wrap (Int.ofNat (2 * i + 1) + Int.ofNat 1)))) (AV.v (Value.int IntKind.i64 (Int.ofNat (2 * i + 2)))))).a Cnd.t).a (((Cnd.p (Int.ofNat 0 ≤ Int.ofNat (2 * i + 2) ∧ (Int.ofNat (2 * i + 2)).toNat < s.xs.length ∧ Int.ofNat 0 ≤ Int.ofNat (2 * i + 1) ∧ (Int.ofNat (2 * i + 1)).toNat < s.xs.length)).a ((Cnd.p (VW [AV.ptr 0 0, AV.v (Value.int IntKind.i64 (Int.ofNat (2 * i + 2))), AV.v (Value.int IntKind.i64 (Int.ofNat (2 * i + 1)))] [AV.ptr 0 0, AV.v (Value.int IntKind.i64 (Int.ofNat (2 * i + 2))), AV.v (Value.int IntKind.i64 (Int.ofNat (2 * i + 1)))])).a ((Cnd.p (OW (AO.own (Md.pile s) (pH s)) (AO.own (Md.pile s) (pH s)))).a Cnd.t))).a (((Cnd.p (Int.ofNat 0 ≤ Int.ofNat (2 * i + 1) ∧ (Int.ofNat (2 * i + 1)).toNat < s.xs.length ∧ Int.ofNat 0 ≤ Int.ofNat i ∧ i < s.xs.length)).a ((Cnd.p (VW [AV.ptr 0 0, AV.v (Value.int IntKind.i64 (Int.ofNat (2 * i + 1))), AV.v (Value.int IntKind.i64 (Int.ofNat i))] [AV.ptr 0 0, AV.v (Value.int IntKind.i64 (Int.ofNat (2 * i + 1))), AV.v (Value.int IntKind.i64 (Int.ofNat i))])).a ((Cnd.p (OW (AO.own (Md.pile s) (pH s)) (AO.own (Md.pile s) (pH s)))).a Cnd.t))).a (((Cnd.p (Int.ofNat 0 ≤ Int.ofNat i ∧ i < s.xs.length ∧ Int.ofNat 0 ≤ Int.ofNat (2 * i + 1) ∧ (Int.ofNat (2 * i + 1)).toNat < s.xs.length ∧ MI s.m s.ck)).a ((Cnd.p (VW [AV.ptr 0 0, AV.v (Value.int IntKind.i64 (Int.ofNat i)), AV.v (Value.int IntKind.i64 (Int.ofNat (2 * i + 1)))] [AV.ptr 0 0, AV.v (Value.int IntKind.i64 (Int.ofNat i)), AV.v (Value.int IntKind.i64 (Int.ofNat (2 * i + 1)))])).a ((Cnd.p (OW (AO.own (Md.pile s) (pH s)) (AO.own (Md.pile s) (pH s)))).a Cnd.t))).a Cnd.t)))))))) (VT.ite (!ahead (at' s (Int.ofNat (2 * i + 1)).toNat) (at' s i)) (VT.leaf (AX.exit 0, [AV.iface 53 (AV.ptr 0 0), AV.v (Value.int IntKind.i64 (Int.ofNat i0)), AV.v (Value.int IntKind.i64 (Int.ofNat n)), AV.any, AV.any, AV.any, AV.any, AV.v (Value.int IntKind.i64 (Int.ofNat i)), AV.v (Value.int IntKind.i64 (Int.ofNat (2 * i + 1))), AV.v (Value.int IntKind.i64 (Int.ofNat (2 * i + 1))), AV.v (Value.int IntKind.i64 (Int.ofNat (2 * i + 2))), AV.any, AV.v (Value.int IntKind.i64 (Int.ofNat i)), AV.v (Value.int IntKind.i64 (IntKind.i64.wrap (Int.ofNat 2 * Int.ofNat i))), AV.v (Value.int IntKind.i64 (Int.ofNat (2 * i + 1))), AV.v (Value.int IntKind.i64 (Int.ofNat (2 * i + 1))), AV.v (Value.int IntKind.i64 (Int.ofNat n)), AV.v (Value.bool (decide (Int.ofNat (2 * i + 1) ≥ Int.ofNat n))), AV.lit false, AV.v (Value.int IntKind.i64 (Int.ofNat (2 * i + 1))), AV.v (Value.bool false), AV.lit false, AV.v (Value.int IntKind.i64 (Int.ofNat (2 * i + 1))), AV.v (Value.int IntKind.i64 (Int.ofNat (2 * i + 1))), AV.v (Value.int IntKind.i64 (Int.ofNat (2 * i + 2))), AV.v (Value.int IntKind.i64 (Int.ofNat (2 * i + 2))), AV.v (Value.int IntKind.i64 (Int.ofNat n)), AV.v (Value.bool (decide (Int.ofNat (2 * i + 2) < Int.ofNat n))), AV.lit false, AV.v (Value.tuple (Array.mk [])), AV.v (Value.tuple (Array.mk [])), AV.v (Value.tuple (Array.mk [])), AV.v (Value.tuple (Array.mk [])), AV.lit false, AV.any, AV.iface 53 (AV.ptr 0 0), AV.v (Value.int IntKind.i64 (Int.ofNat (2 * i + 1))), AV.v (Value.int IntKind.i64 (Int.ofNat i)), AV.v (Value.bool (ahead (at' s (Int.ofNat (2 * i + 1)).toNat) (at' s i))), AV.lit true, AV.any, AV.any, AV.any, AV.any, AV.any, AV.any, AV.any, AV.any]) [some (AO.own (Md.pile s) (pH s))] 1100 (((Cnd.p (Wk (AV.v (Value.int IntKind.i64 (IntKind.i64.wrap (IntKind.i64.wrap (Int.ofNat 2 * Int.ofNat i) + Int.ofNat 1)))) (AV.v (Value.int IntKind.i64 (Int.ofNat (2 * i + 1)))))).a Cnd.t).a (((Cnd.p (Wk (AV.v (Value.int IntKind.i64 (IntKind.i64.wrap (Int.ofNat (2 * i + 1) + Int.ofNat 1)))) (AV.v (Value.int IntKind.i64 (Int.ofNat (2 * i + 2)))))).a Cnd.t).a (((Cnd.p (Int.ofNat 0 ≤ Int.ofNat (2 * i + 1) ∧ (Int.ofNat (2 * i + 1)).toNat < s.xs.length ∧ Int.ofNat 0 ≤ Int.ofNat i ∧ i < s.xs.length)).a ((Cnd.p (VW [AV.ptr 0 0, AV.v (Value.int IntKind.i64 (Int.ofNat (2 * i + 1))), AV.v (Value.int IntKind.i64 (Int.ofNat i))] [AV.ptr 0 0, AV.v (Value.int IntKind.i64 (Int.ofNat (2 * i + 1))), AV.v (Value.int IntKind.i64 (Int.ofNat i))])).a ((Cnd.p (OW (AO.own (Md.pile s) (pH s)) (AO.own (Md.pile s) (pH s)))).a Cnd.t))).a Cnd.t)))) (VT.leaf (AX.normal, [AV.iface 53 (AV.ptr 0 0), AV.v (Value.int IntKind.i64 (Int.ofNat i0)), AV.v (Value.int IntKind.i64 (Int.ofNat n)), AV.any, AV.any, AV.any, AV.any, AV.v (Value.int IntKind.i64 (Int.ofNat (2 * i + 1))), AV.v (Value.int IntKind.i64 (Int.ofNat (2 * i + 1))), AV.v (Value.int IntKind.i64 (Int.ofNat (2 * i + 1))), AV.v (Value.int IntKind.i64 (Int.ofNat (2 * i + 2))), AV.any, AV.v (Value.int IntKind.i64 (Int.ofNat i)), AV.v (Value.int IntKind.i64 (IntKind.i64.wrap (Int.ofNat 2 * Int.ofNat i))), AV.v (Value.int IntKind.i64 (Int.ofNat (2 * i + 1))), AV.v (Value.int IntKind.i64 (Int.ofNat (2 * i + 1))), AV.v (Value.int IntKind.i64 (Int.ofNat n)), AV.v (Value.bool (decide (Int.ofNat (2 * i + 1) ≥ Int.ofNat n))), AV.lit false, AV.v (Value.int IntKind.i64 (Int.ofNat (2 * i + 1))), AV.v (Value.bool false), AV.lit false, AV.v (Value.int IntKind.i64 (Int.ofNat (2 * i + 1))), AV.v (Value.int IntKind.i64 (Int.ofNat (2 * i + 1))), AV.v (Value.int IntKind.i64 (Int.ofNat (2 * i + 2))), AV.v (Value.int IntKind.i64 (Int.ofNat (2 * i + 2))), AV.v (Value.int IntKind.i64 (Int.ofNat n)), AV.v (Value.bool (decide (Int.ofNat (2 * i + 2) < Int.ofNat n))), AV.lit false, AV.v (Value.tuple (Array.mk [])), AV.v (Value.tuple (Array.mk [])), AV.v (Value.tuple (Array.mk [])), AV.v (Value.tuple (Array.mk [])), AV.lit false, AV.any, AV.iface 53 (AV.ptr 0 0), AV.v (Value.int IntKind.i64 (Int.ofNat (2 * i + 1))), AV.v (Value.int IntKind.i64 (Int.ofNat i)), AV.v (Value.bool (ahead (at' s (Int.ofNat (2 * i + 1)).toNat) (at' s i))), AV.lit false, AV.iface 53 (AV.ptr 0 0), AV.v (Value.int IntKind.i64 (Int.ofNat i)), AV.v (Value.int IntKind.i64 (Int.ofNat (2 * i + 1))), AV.tuple [], AV.v (Value.int IntKind.i64 (Int.ofNat (2 * i + 1))), AV.any, AV.any, AV.any]) [some (AO.own (Md.pile (swapS s i (Int.ofNat (2 * i + 1)).toNat)) (pH (swapS s i (Int.ofNat (2 * i + 1)).toNat)))] 1100 (((Cnd.p (Wk (AV.v (Value.int IntKind.i64 (IntKind.i64.wrap (IntKind.i64.wrap (Int.ofNat 2 * Int.ofNat i) + Int.ofNat 1)))) (AV.v (Value.int IntKind.i64 (Int.ofNat (2 * i + 1)))))).a Cnd.t).a (((Cnd.p (Wk (AV.v (Value.int IntKind.i64 (IntKind.i64.wrap (Int.ofNat (2 * i + 1) + Int.ofNat 1)))) (AV.v (Value.int IntKind.i64 (Int.ofNat (2 * i + 2)))))).a Cnd.t).a (((Cnd.p (Int.ofNat 0 ≤ Int.ofNat (2 * i + 1) ∧ (Int.ofNat (2 * i + 1)).toNat < s.xs.length ∧ Int.ofNat 0 ≤ Int.ofNat i ∧ i < s.xs.length)).a ((Cnd.p (VW [AV.ptr 0 0, AV.v (Value.int IntKind.i64 (Int.ofNat (2 * i + 1))), AV.v (Value.int IntKind.i64 (Int.ofNat i))] [AV.ptr 0 0, AV.v (Value.int IntKind.i64 (Int.ofNat (2 * i + 1))), AV.v (Value.int IntKind.i64 (Int.ofNat i))])).a ((Cnd.p (OW (AO.own (Md.pile s) (pH s)) (AO.own (Md.pile s) (pH s)))).a Cnd.t))).a (((Cnd.p (Int.ofNat 0 ≤ Int.ofNat i ∧ i < s.xs.length ∧ Int.ofNat 0 ≤ Int.ofNat (2 * i + 1) ∧ (Int.ofNat (2 * i + 1)).toNat < s.xs.length ∧ MI s.m s.ck)).a ((Cnd.p (VW [AV.ptr 0 0, AV.v (Value.int IntKind.i64 (Int.ofNat i)), AV.v (Value.int IntKind.i64 (Int.ofNat (2 * i + 1)))] [AV.ptr 0 0, AV.v (Value.int IntKind.i64 (Int.ofNat i)), AV.v (Value.int IntKind.i64 (Int.ofNat (2 * i + 1)))])).a ((Cnd.p (OW (AO.own (Md.pile s) (pH s)) (AO.own (Md.pile s) (pH s)))).a Cnd.t))).a Cnd.t)))))))) := by kernel_rfl
def downJ (s : Ps) (i n : Nat) : Nat := if 2 * i + 2 < n ∧ ahead (at' s (2 * i + 2)) (at' s (2 * i + 1)) = true then 2 * i + 2 else 2 * i + 1
theorem downJ_gt (s : Ps) (i n : Nat) : i < downJ s i n := by unfold downJ; split <;> omega
def downS (s : Ps) (i n : Nat) : Ps × Nat := if h : n ≤ 2 * i + 1 then (s, i) else if ahead (at' s (downJ s i n)) (at' s i) = true then downS (swapS s i (downJ s i n)) (downJ s i n) n else (s, i)
  termination_by n - i
  decreasing_by have := downJ_gt s i n; omega
end
end Go.Proofs.Ytcpijmlaglcblaa.Rk

/- The pile's methods as calls; up and down. -/
set_option linter.unusedVariables false
set_option linter.unusedSimpArgs false
set_option maxRecDepth 100000
namespace Go.Proofs.Ytcpijmlaglcblaa.Rk
open Go Go.RowKit Go.Proofs.Ytcpijmlaglcblaa.Eng
theorem ownC_run {i : Nat} {k : Md → AP AV} {st : Bool} {h h' : T} {n n' : Nat} {lg lg' : Log} {v : AV} {c : Cnd} (he : (ownC i k).run st h n lg = .ok v h' n' lg' c) : ∃ m lg1, (k m).run st h n lg1 = .ok v h' n' lg' c := by
  obtain ⟨o, ho, he⟩ := run_read he
  split at he
  · exact ⟨_, _, he⟩
  · exact (inv_fail he).elim
theorem closedO {A : List AV} {v : AV} {o o' : AO} (ha : AV.cls (kH [(0, o)]) A) (hv : AV.cls (kR [(0, o)] [(0, o')]) [v]) (ho : o.cl (kH [(0, o)])) (ho' : o'.cl (kR [(0, o)] [(0, o')])) : ClosedC A [(0, o)] [v] [(0, o')] :=
  ⟨rfl, rfl, ha, (fun x hx => by simp only [List.mem_singleton] at hx; subst hx; exact ho), hv, fun x hx => by simp only [List.mem_singleton] at hx; subst hx; exact ho'⟩
theorem onPile_ok {F : HP} {f : FuncId} {s : Ps} {A args : List AV} {i : Nat} {v0 : AV} {o : AO} (ht : Tri Try.prog default f A [(0, pO s)] v0 [(0, o)]) (ha : AV.cls (kH [(0, pO s)]) A) (hv : AV.cls (kR [(0, pO s)] [(0, o)]) [v0]) (ho : o.cl (kR [(0, pO s)] [(0, o)]))
    {st : Bool} {W0 : World} {N : Names} {h : T} {w : World} {vargs : Array Value} {v : AV} {h' : T} {n n' : Nat} {lg lg' : Log} {c : Cnd} (he : (onPile s A args i v0 o).run st h n lg = .ok v h' n' lg' c) (hc : c.holds)
    (r : Rep W0 N F h w) (hargs : VRs N args vargs.toList) (hf : Fresh N n n') : Calls Try.prog f vargs w (CallPost W0 F N v h' n n') :=
  useC_ok oldDef ht rfl (closedO ha hv trivial ho) he hc r hargs hf
theorem cLess_ok (F : HP) : C1OK Try.prog F fLess cLess := by
  intro st W0 N h w args vargs v h' n n' lg lg' c p hp he hc r ha hf
  unfold cLess at hp
  split at hp
  · rename_i i a b
    cases hp
    obtain ⟨m, lg1, he1⟩ := ownC_run he
    split at he1
    · rename_i s
      obtain ⟨c1, he2, rfl⟩ := run_need he1
      obtain ⟨⟨h1, h2, h3, h4⟩, hc2⟩ := (Cnd.and_iff _ _).1 hc
      obtain ⟨a, rfl⟩ := Int.eq_ofNat_of_zero_le h1
      obtain ⟨b, rfl⟩ := Int.eq_ofNat_of_zero_le h3
      exact onPile_ok (less_tri s a b h2 h4) ⟨rfl, trivial, trivial, trivial⟩ ⟨trivial, trivial⟩ trivial he2 hc2 r ha hf
    · exact (inv_fail he1).elim
  · cases hp
theorem cSwap_ok (F : HP) : C1OK Try.prog F fSwap cSwap := by
  intro st W0 N h w args vargs v h' n n' lg lg' c p hp he hc r ha hf
  unfold cSwap at hp
  split at hp
  · rename_i i a b
    cases hp
    obtain ⟨m, lg1, he1⟩ := ownC_run he
    split at he1
    · rename_i s
      obtain ⟨c1, he2, rfl⟩ := run_need he1
      obtain ⟨⟨h1, h2, h3, h4, h5⟩, hc2⟩ := (Cnd.and_iff _ _).1 hc
      obtain ⟨a, rfl⟩ := Int.eq_ofNat_of_zero_le h1
      obtain ⟨b, rfl⟩ := Int.eq_ofNat_of_zero_le h3
      exact onPile_ok (swap_tri s a b h2 h4 h5) ⟨rfl, trivial, trivial, trivial⟩ ⟨trivial, trivial⟩ trivial he2 hc2 r ha hf
    · exact (inv_fail he1).elim
  · cases hp
theorem cLen_ok (F : HP) : C1OK Try.prog F fLen cLen := by
  intro st W0 N h w args vargs v h' n n' lg lg' c p hp he hc r ha hf
  unfold cLen at hp
  split at hp
  · rename_i i
    cases hp
    obtain ⟨m, lg1, he1⟩ := ownC_run he
    split at he1
    · exact onPile_ok (len_tri _) ⟨rfl, trivial⟩ ⟨trivial, trivial⟩ trivial he1 hc r ha hf
    · exact useC_ok oldDef len0_tri rfl (closedO (A := [.ptr 0 0]) (v := iv (Int.ofNat 0)) (o := pO0) (o' := pO0) ⟨rfl, trivial⟩ ⟨trivial, trivial⟩ trivial trivial) he1 hc r ha hf
    · exact (inv_fail he1).elim
  · cases hp
theorem cPush_ok (F : HP) : C1OK Try.prog F fPush cPush := by
  intro st W0 N h w args vargs v h' n n' lg lg' c p hp he hc r ha hf
  unfold cPush at hp
  split at hp
  · rename_i i t a b c
    cases hp
    obtain ⟨c0, he0, rfl⟩ := run_need he
    obtain ⟨ht, hc0⟩ := (Cnd.and_iff _ _).1 hc
    have ht' : t = 27 := ht
    subst ht'
    obtain ⟨m, lg1, he1⟩ := ownC_run he0
    split at he1
    · rename_i s
      obtain ⟨c1, he2, rfl⟩ := run_need he1
      obtain ⟨h1, hc2⟩ := (Cnd.and_iff _ _).1 hc0
      exact onPile_ok (push_tri s ⟨a, b, c⟩ h1) ⟨rfl, ⟨trivial, trivial, trivial, trivial⟩, trivial⟩ ⟨trivial, trivial⟩ trivial he2 hc2 r ha hf
    · exact useC_ok oldDef (push0_tri ⟨a, b, c⟩) rfl (closedO (A := [.ptr 0 0, .iface 27 (itA ⟨a, b, c⟩)]) (v := .tuple []) (o := pO0) (o' := pO (pushS ⟨[], [], [], 0⟩ ⟨a, b, c⟩)) ⟨rfl, ⟨trivial, trivial, trivial, trivial⟩, trivial⟩ ⟨trivial, trivial⟩ trivial trivial) he1 hc0 r ha hf
    · exact (inv_fail he1).elim
  · cases hp
theorem cPop_ok (F : HP) : C1OK Try.prog F fPop cPop := by
  intro st W0 N h w args vargs v h' n n' lg lg' c p hp he hc r ha hf
  unfold cPop at hp
  split at hp
  · rename_i i
    cases hp
    obtain ⟨m, lg1, he1⟩ := ownC_run he
    split at he1
    · rename_i s
      obtain ⟨c1, he2, rfl⟩ := run_need he1
      obtain ⟨⟨h1, h2⟩, hc2⟩ := (Cnd.and_iff _ _).1 hc
      exact onPile_ok (pop_tri s h1 h2) ⟨rfl, trivial⟩ ⟨⟨trivial, trivial, trivial, trivial⟩, trivial⟩ trivial he2 hc2 r ha hf
    · exact (inv_fail he1).elim
  · cases hp
theorem conP_ok : ∀ x ∈ conP, ∀ F, C1OK Try.prog F x.1 x.2 := by
  intro x hx F
  simp only [conP, List.mem_cons, List.not_mem_nil, or_false] at hx
  rcases hx with rfl | rfl | rfl | rfl | rfl
  · exact cLess_ok F
  · exact cSwap_ok F
  · exact cLen_ok F
  · exact cPush_ok F
  · exact cPop_ok F
theorem fits_own {ks : List Nat} {os : List (Option AO)} {vs vs' : List AV} {o : AO} (hv : VW vs (AV.rens (sg []) vs')) (ho : ∃ o1, getK ks os 0 = some o1 ∧ OW o1 (o.ren (sg []))) : Fit ks vs os vs' [(0, o)] [] :=
  fit_mk [] rfl rfl hv ⟨ho, trivial⟩
/-- What a pile is fit for. -/
structure PI (s : Ps) : Prop where
  m : MI s.m s.ck
  big : s.xs.length * 24 ≤ 140737488355328
theorem PI.swap {s : Ps} (h : PI s) (i j : Nat) : PI (swapS s i j) := ⟨(h.m.mset _ _).mset _ _, by rw [swap_len]; exact h.big⟩
theorem up_loop (s : Ps) (j : Nat) (hP : PI s) (hj : j < s.xs.length) : LTri Try.prog default (loopOf fUp) (upA j) [(0, pO s)] (.exit 0) (anys 23) [(0, pO (upS s j))] := by
  refine ltri_loop (σ := {p : Ps × Nat // PI p.1 ∧ p.2 < p.1.xs.length}) (g := fUp) (con := fun _ => conL conP) (claim := fun p => hUp p.1.2) (lcon := fun _ => lconL []) (fun p => upA p.1.2) (fun p => [(0, pO p.1.1)]) (fun p => (.exit 0, anys 23, [(0, pO (upS p.1.1 p.1.2))])) (fun p => p.1.2) [0] 1000 mixed
    (fun _ => rfl) (fun p F _ => conL_ok rfl fun x hx => conP_ok x hx F) (fun p F _ => lconL_ok rfl fun x hx => by cases hx) ?_ ⟨(s, j), hP, hj⟩
  rintro ⟨⟨s, j⟩, hP, hj⟩ F _
  show (lRun conP (hUp j) [] fUp (loopOf fUp) (upA j) [(0, pO s)] [0] F).all _
  rw [oUp_eq]
  have hbig := hP.big
  have hj : j < s.xs.length := hj
  have hbig : s.xs.length * 24 ≤ 140737488355328 := hbig
  have hwr : IntKind.i64.wrap ((IntKind.i64.wrap (Int.ofNat j - Int.ofNat 1)).tdiv (Int.ofNat 2)) = Int.ofNat ((j - 1) / 2) := by
    have hj2 : j < s.xs.length := hj
    rw [IntWalk.i64_in (Int.ofNat j - Int.ofNat 1) (by simp only [Int.ofNat_eq_natCast]; omega)]
    cases j with
    | zero => rfl
    | succ j =>
      rw [IntWalk.i64_quo _ _ (by simp only [Int.ofNat_eq_natCast]; omega)]
      simp only [Int.ofNat_eq_natCast]; omega
  have hfin : ∀ (l : List AV), l.length = 23 → VW l (AV.rens (sg []) (anys 23)) := fun l hl => by rw [rens_anys]; exact vw_anys hl
  have hup0 : (Int.ofNat ((j - 1) / 2) == Int.ofNat j) = decide (j = 0) := by
    simp only [Int.ofNat_eq_natCast]
    by_cases h : j = 0
    · subst h; rfl
    · simp only [h, decide_false]; apply beq_eq_false_iff_ne.2; omega
  have hw : ∀ (x y : Nat), (Int.ofNat x).toNat = x := fun x y => rfl
  rw [hup0]
  refine ⟨fun h1 => ?_, fun h1 => ⟨fun h2 => ?_, fun h2 => ?_⟩⟩
  · simp only [decide_eq_true_eq] at h1
    have e : upS s j = s := by rw [upS, dif_pos h1]
    refine ⟨⟨⟨wk_int hwr, trivial⟩, trivial⟩, .inr ⟨(fun h => by cases h), rfl, (fits_own (hfin _ rfl) ⟨_, rfl, OW.of_eq ?_⟩).fits rfl⟩⟩
    show _ = (pO (upS s j)).ren _
    rw [e]; rfl
  · simp only [decide_eq_false_iff_not] at h1
    have h2' : (!ahead (at' s j) (at' s ((j - 1) / 2))) = true := h2
    have e : upS s j = s := by rw [upS, dif_neg h1, if_neg (by simpa using h2')]
    refine ⟨⟨⟨wk_int hwr, trivial⟩, ⟨⟨by simp only [Int.ofNat_eq_natCast]; omega, hj, by simp only [Int.ofNat_eq_natCast]; omega, by show (j - 1) / 2 < _; omega⟩, VW.refl _, OW.refl _, trivial⟩, trivial⟩, .inr ⟨(fun h => by cases h), rfl, (fits_own (hfin _ rfl) ⟨_, rfl, OW.of_eq ?_⟩).fits rfl⟩⟩
    show _ = (pO (upS s j)).ren _
    rw [e]; rfl
  · simp only [decide_eq_false_iff_not] at h1
    have h2' : (!ahead (at' s j) (at' s ((j - 1) / 2))) = false := h2
    have e1 : (j - 1) / 2 < s.xs.length := by omega
    have e : upS s j = upS (swapS s ((j - 1) / 2) j) ((j - 1) / 2) := by
      conv => lhs; rw [upS, dif_neg h1, if_pos (by simpa using h2')]
    refine ⟨⟨⟨wk_int hwr, trivial⟩, ⟨⟨by simp only [Int.ofNat_eq_natCast]; omega, hj, by simp only [Int.ofNat_eq_natCast]; omega, e1⟩, VW.refl _, OW.refl _, trivial⟩, ⟨⟨by simp only [Int.ofNat_eq_natCast]; omega, e1, by simp only [Int.ofNat_eq_natCast]; omega, hj, hP.m⟩, VW.refl _, OW.refl _, trivial⟩, trivial⟩, .inl ⟨rfl, ⟨(swapS s ((j - 1) / 2) j, (j - 1) / 2), hP.swap _ _, by rw [swap_len]; exact e1⟩, ?_, ?_, [], fits_own ?_ ⟨_, rfl, OW.refl _⟩⟩⟩
    · show (j - 1) / 2 < j
      omega
    · simp only [e]
    · exact VW.cons (Wk.refl _) (VW.cons (Wk.refl _) (by rw [rens_anys]; exact vw_anys rfl))
theorem downJ_lt (s : Ps) (i n : Nat) (h : ¬ n ≤ 2 * i + 1) : downJ s i n < n := by unfold downJ; split <;> omega
theorem down_loop (s : Ps) (i0 n i : Nat) (hP : PI s) (hn : n ≤ s.xs.length) (hi : i ≤ s.xs.length) : LTri Try.prog default (loopOf fDown) (downA i0 n i) [(0, pO s)] (.exit 0) (downA i0 n (downS s i n).2) [(0, pO (downS s i n).1)] := by
  refine ltri_loop (σ := {p : Ps × Nat // PI p.1 ∧ n ≤ p.1.xs.length ∧ p.2 ≤ p.1.xs.length}) (g := fDown) (con := fun _ => conL conP) (claim := fun p => hDown p.1.2) (lcon := fun _ => lconL []) (fun p => downA i0 n p.1.2) (fun p => [(0, pO p.1.1)]) (fun p => (.exit 0, downA i0 n (downS p.1.1 p.1.2 n).2, [(0, pO (downS p.1.1 p.1.2 n).1)])) (fun p => n - p.1.2) [0] 1000 mixed
    (fun _ => rfl) (fun p F _ => conL_ok rfl fun x hx => conP_ok x hx F) (fun p F _ => lconL_ok rfl fun x hx => by cases hx) ?_ ⟨(s, i), hP, hn, hi⟩
  rintro ⟨⟨s, i⟩, hP, hn, hi⟩ F _
  show (lRun conP (hDown i) [] fDown (loopOf fDown) (downA i0 n i) [(0, pO s)] [0] F).all _
  rw [oDown_eq]
  have hn : n ≤ s.xs.length := hn
  have hi : i ≤ s.xs.length := hi
  have hbig : s.xs.length * 24 ≤ 140737488355328 := hP.big
  have hw1 : IntKind.i64.wrap (IntKind.i64.wrap (Int.ofNat 2 * Int.ofNat i) + Int.ofNat 1) = Int.ofNat (2 * i + 1) := by
    rw [IntWalk.i64_in (Int.ofNat 2 * Int.ofNat i) (by simp only [Int.ofNat_eq_natCast]; omega), IntWalk.i64_in _ (by simp only [Int.ofNat_eq_natCast]; omega)]
    simp only [Int.ofNat_eq_natCast]; omega
  have hw2 : IntKind.i64.wrap (Int.ofNat (2 * i + 1) + Int.ofNat 1) = Int.ofNat (2 * i + 2) := by
    rw [IntWalk.i64_in _ (by simp only [Int.ofNat_eq_natCast]; omega)]
    simp only [Int.ofNat_eq_natCast]; omega
  have hM := hP.m
  have hfin : ∀ (i0' n' i' : Nat) (l : List AV), l.length = 40 → ∀ x3 x4 x5 x6, VW (hI :: iv (Int.ofNat i0) :: iv (Int.ofNat n) :: x3 :: x4 :: x5 :: x6 :: iv (Int.ofNat i') :: l) (AV.rens (sg []) (downA i0 n i')) := by
    intro _ _ i' l hl x3 x4 x5 x6
    have : AV.rens (sg []) (downA i0 n i') = downA i0 n i' := by
      show hI :: iv _ :: iv _ :: .any :: .any :: .any :: .any :: iv _ :: AV.rens (sg []) (anys 40) = _
      rw [rens_anys]; rfl
    rw [this]
    exact VW.cons (Wk.refl _) (VW.cons (Wk.refl _) (VW.cons (Wk.refl _) (VW.cons (Wk.any _) (VW.cons (Wk.any _) (VW.cons (Wk.any _) (VW.cons (Wk.any _) (VW.cons (Wk.refl _) (vw_anys hl))))))))
  -- how a round ends
  have stop : ∀ (tm : List AV), (downS s i n) = (s, i) → VW tm (AV.rens (sg []) (downA i0 n i)) → Fits [0] tm [some (pO s)] (downA i0 n (downS s i n).2) [(0, pO (downS s i n).1)] := by
    intro tm e hv
    rw [e]
    exact (fits_own hv ⟨_, rfl, OW.refl _⟩).fits rfl
  have goes : ∀ j, j < n → i < j → downS s i n = downS (swapS s i j) j n → ∀ tm, VW tm (AV.rens (sg []) (downA i0 n j)) →
      ∃ s' : {p : Ps × Nat // PI p.1 ∧ n ≤ p.1.xs.length ∧ p.2 ≤ p.1.xs.length}, n - s'.1.2 < n - i ∧ ((AX.exit 0, downA i0 n (downS s'.1.1 s'.1.2 n).2, [(0, pO (downS s'.1.1 s'.1.2 n).1)]) : AX × List AV × LH) = (.exit 0, downA i0 n (downS s i n).2, [(0, pO (downS s i n).1)]) ∧ ∃ l, Fit [0] tm [some (pO (swapS s i j))] (downA i0 n s'.1.2) [(0, pO s'.1.1)] l := by
    intro j hj hij e tm hv
    refine ⟨⟨(swapS s i j, j), hP.swap _ _, by rw [swap_len]; exact hn, by rw [swap_len]; exact Nat.le_of_lt (Nat.lt_of_lt_of_le hj hn)⟩, ?_, ?_, [], fits_own hv ⟨_, rfl, OW.refl _⟩⟩
    · show n - j < n - i; omega
    · simp only [e]
  have big : ∀ h : ¬ n ≤ 2 * i + 1, downS s i n = if ahead (at' s (downJ s i n)) (at' s i) = true then downS (swapS s i (downJ s i n)) (downJ s i n) n else (s, i) := fun h => by conv => lhs; rw [downS, dif_neg h]
  refine ⟨fun h1 => ?_, fun h1 => ⟨(fun h => by cases h), fun _ => ⟨fun h2 => ⟨fun h3 => ⟨fun h4 => ?_, fun h4 => ?_⟩, fun h3 => ⟨fun h4 => ?_, fun h4 => ?_⟩⟩, fun h2 => ⟨fun h4 => ?_, fun h4 => ?_⟩⟩⟩⟩
  · simp only [Int.ofNat_eq_natCast, decide_eq_true_eq] at h1
    exact ⟨⟨⟨wk_int hw1, trivial⟩, trivial⟩, .inr ⟨(fun h => by cases h), rfl, stop _ (by rw [downS, dif_pos (by omega)]) (hfin 0 0 i _ rfl _ _ _ _)⟩⟩
  all_goals simp only [Int.ofNat_eq_natCast, decide_eq_true_eq, decide_eq_false_iff_not] at h1 h2
  all_goals have hb := big (by omega)
  all_goals have h4' := h4
  all_goals simp only [Int.ofNat_eq_natCast, Int.toNat_natCast, Bool.not_eq_true', Bool.not_eq_false'] at h4'
  · have h3' : ahead (at' s (2 * i + 2)) (at' s (2 * i + 1)) = true := h3
    have hj : downJ s i n = 2 * i + 2 := by rw [downJ, if_pos ⟨by omega, h3'⟩]
    rw [hj, h4'] at hb
    refine ⟨?_, .inr ⟨(fun h => by cases h), rfl, stop _ (by rw [hb]; rfl) (hfin 0 0 i _ rfl _ _ _ _)⟩⟩
    simp only [Cnd.holds]
    and_intros
    all_goals first | exact trivial | exact wk_int hw1 | exact wk_int hw2 | exact VW.refl _ | exact OW.refl _ | exact hM | omega | (simp only [Int.ofNat_eq_natCast]; omega)
  · have h3' : ahead (at' s (2 * i + 2)) (at' s (2 * i + 1)) = true := h3
    have hj : downJ s i n = 2 * i + 2 := by rw [downJ, if_pos ⟨by omega, h3'⟩]
    rw [hj, h4', if_pos rfl] at hb
    refine ⟨?_, .inl ⟨rfl, goes (2 * i + 2) (by omega) (by omega) hb _ (hfin 0 0 (2 * i + 2) _ rfl _ _ _ _)⟩⟩
    simp only [Cnd.holds]
    and_intros
    all_goals first | exact trivial | exact wk_int hw1 | exact wk_int hw2 | exact VW.refl _ | exact OW.refl _ | exact hM | omega | (simp only [Int.ofNat_eq_natCast]; omega)
  · have h3' : ahead (at' s (2 * i + 2)) (at' s (2 * i + 1)) = false := h3
    have hj : downJ s i n = 2 * i + 1 := by rw [downJ, if_neg (by rw [h3']; simp)]
    rw [hj, h4'] at hb
    refine ⟨?_, .inr ⟨(fun h => by cases h), rfl, stop _ (by rw [hb]; rfl) (hfin 0 0 i _ rfl _ _ _ _)⟩⟩
    simp only [Cnd.holds]
    and_intros
    all_goals first | exact trivial | exact wk_int hw1 | exact wk_int hw2 | exact VW.refl _ | exact OW.refl _ | exact hM | omega | (simp only [Int.ofNat_eq_natCast]; omega)
  · have h3' : ahead (at' s (2 * i + 2)) (at' s (2 * i + 1)) = false := h3
    have hj : downJ s i n = 2 * i + 1 := by rw [downJ, if_neg (by rw [h3']; simp)]
    rw [hj, h4', if_pos rfl] at hb
    refine ⟨?_, .inl ⟨rfl, goes (2 * i + 1) (by omega) (by omega) hb _ (hfin 0 0 (2 * i + 1) _ rfl _ _ _ _)⟩⟩
    simp only [Cnd.holds]
    and_intros
    all_goals first | exact trivial | exact wk_int hw1 | exact wk_int hw2 | exact VW.refl _ | exact OW.refl _ | exact hM | omega | (simp only [Int.ofNat_eq_natCast]; omega)
  · have hj : downJ s i n = 2 * i + 1 := by rw [downJ, if_neg (by intro h; omega)]
    rw [hj, h4'] at hb
    refine ⟨?_, .inr ⟨(fun h => by cases h), rfl, stop _ (by rw [hb]; rfl) (hfin 0 0 i _ rfl _ _ _ _)⟩⟩
    simp only [Cnd.holds]
    and_intros
    all_goals first | exact trivial | exact wk_int hw1 | exact wk_int hw2 | exact VW.refl _ | exact OW.refl _ | exact hM | omega | (simp only [Int.ofNat_eq_natCast]; omega)
  · have hj : downJ s i n = 2 * i + 1 := by rw [downJ, if_neg (by intro h; omega)]
    rw [hj, h4', if_pos rfl] at hb
    refine ⟨?_, .inl ⟨rfl, goes (2 * i + 1) (by omega) (by omega) hb _ (hfin 0 0 (2 * i + 1) _ rfl _ _ _ _)⟩⟩
    simp only [Cnd.holds]
    and_intros
    all_goals first | exact trivial | exact wk_int hw1 | exact wk_int hw2 | exact VW.refl _ | exact OW.refl _ | exact hM | omega | (simp only [Int.ofNat_eq_natCast]; omega)
end Go.Proofs.Ytcpijmlaglcblaa.Rk

/- A pile as the row of its items in their order: the plain law of container/heap. -/
set_option linter.unusedVariables false
set_option linter.unusedSimpArgs false
namespace Go.Proofs.Ytcpijmlaglcblaa.Rk
open Go Go.RowKit Go.Proofs.Ytcpijmlaglcblaa.Eng
/-! The order. -/
theorem ahead_iff (x y : It) : ahead x y = true ↔ y.a < x.a ∨ (x.a = y.a ∧ x.b < y.b) := by
  simp [ahead]
theorem ahead_irrefl (x : It) : ahead x x = false := by
  cases h : ahead x x with
  | false => rfl
  | true => rw [ahead_iff] at h; omega
theorem ahead_trans {x y z : It} (h1 : ahead x y = true) (h2 : ahead y z = true) : ahead x z = true := by
  rw [ahead_iff] at *; omega
/-- y isn't ahead of x. -/
def nb (x y : It) : Prop := ahead y x = false
theorem nb_iff (x y : It) : nb x y ↔ ¬ (x.a < y.a ∨ (y.a = x.a ∧ y.b < x.b)) := by
  rw [nb, ← Bool.not_eq_true, ahead_iff]
theorem nb_trans {x y z : It} (h1 : nb x y) (h2 : nb y z) : nb x z := by rw [nb_iff] at *; omega
theorem nb_of_ahead {x y : It} (h : ahead x y = true) : nb x y := by rw [nb_iff]; rw [ahead_iff] at h; omega
theorem ahead_of_nb {x y : It} (h : nb x y) (hs : x.b ≠ y.b) : ahead x y = true := by rw [nb_iff] at h; rw [ahead_iff]; omega
/-! Places that are exchanged. -/
def swapF (f : Nat → It) (i j k : Nat) : It := if k = j then f i else if k = i then f j else f k
theorem at_swap (s : Ps) (i j k : Nat) (hi : i < s.xs.length) (hj : j < s.xs.length) : at' (swapS s i j) k = swapF (at' s) i j k := by
  unfold swapF
  by_cases h1 : k = j
  · rw [if_pos h1, h1]; exact swap_at_j s i j hi hj
  · rw [if_neg h1]
    by_cases h2 : k = i
    · rw [if_pos h2, h2]; exact swap_at_i s i j hi hj
    · rw [if_neg h2]
      simp only [swapS, at', List.getD]
      rw [List.getElem?_set_ne (Ne.symm h1), List.getElem?_set_ne (Ne.symm h2)]
theorem at_get (s : Ps) (i : Nat) (hi : i < s.xs.length) : at' s i = s.xs[i] := by
  simp [at', List.getD, List.getElem?_eq_getElem hi]
theorem swap_perm (s : Ps) (i j : Nat) (hi : i < s.xs.length) (hj : j < s.xs.length) : (swapS s i j).xs.Perm s.xs := by
  simp only [swapS, at_get s i hi, at_get s j hj]
  exact List.set_set_perm hi hj
/-- A heap as far as n, but for what hangs on j. -/
def HeapTo (f : Nat → It) (n : Nat) : Prop := ∀ c, 0 < c → c < n → nb (f ((c - 1) / 2)) (f c)
def HeapUp (f : Nat → It) (n j : Nat) : Prop := (∀ c, 0 < c → c < n → c ≠ j → nb (f ((c - 1) / 2)) (f c)) ∧ ∀ c, 0 < c → c < n → (c - 1) / 2 = j → 0 < j → nb (f ((j - 1) / 2)) (f c)
def HeapDown (f : Nat → It) (n i : Nat) : Prop := (∀ c, 0 < c → c < n → (c - 1) / 2 ≠ i → nb (f ((c - 1) / 2)) (f c)) ∧ ∀ c, 0 < c → c < n → (c - 1) / 2 = i → 0 < i → nb (f ((i - 1) / 2)) (f c)
theorem heapUp_step {f : Nat → It} {n j : Nat} (h : HeapUp f n j) (hj0 : 0 < j) (hjn : j < n) (ha : ahead (f j) (f ((j - 1) / 2)) = true) : HeapUp (swapF f ((j - 1) / 2) j) n ((j - 1) / 2) := by
  have hpj : (j - 1) / 2 < j := by omega
  have hpn : (j - 1) / 2 ≠ j := by omega
  have e1 : swapF f ((j - 1) / 2) j j = f ((j - 1) / 2) := if_pos rfl
  have e2 : swapF f ((j - 1) / 2) j ((j - 1) / 2) = f j := by rw [swapF, if_neg hpn, if_pos rfl]
  have e3 : ∀ k, k ≠ j → k ≠ (j - 1) / 2 → swapF f ((j - 1) / 2) j k = f k := fun k h1 h2 => by rw [swapF, if_neg h1, if_neg h2]
  refine ⟨fun c hc hcn hne => ?_, fun c hc hcn hpc hp0 => ?_⟩
  · by_cases hcj : c = j
    · rw [hcj, e1, e2]; exact nb_of_ahead ha
    · rw [e3 c hcj hne]
      by_cases h1 : (c - 1) / 2 = j
      · rw [h1, e1]; exact h.2 c hc hcn h1 hj0
      · by_cases h2 : (c - 1) / 2 = (j - 1) / 2
        · rw [h2, e2]
          exact nb_trans (nb_of_ahead ha) (h2 ▸ h.1 c hc hcn hcj)
        · rw [e3 _ h1 h2]; exact h.1 c hc hcn hcj
  · have hq : ((j - 1) / 2 - 1) / 2 ≠ j := by omega
    have hq2 : ((j - 1) / 2 - 1) / 2 ≠ (j - 1) / 2 := by omega
    rw [e3 _ hq hq2]
    have hb := h.1 ((j - 1) / 2) hp0 (by omega) hpn
    by_cases hcj : c = j
    · rw [hcj, e1]; exact hb
    · rw [e3 c hcj (by omega)]
      exact nb_trans hb (hpc ▸ h.1 c hc hcn hcj)
theorem heapUp_done {f : Nat → It} {n j : Nat} (h : HeapUp f n j) (hd : j = 0 ∨ nb (f ((j - 1) / 2)) (f j)) : HeapTo f n := by
  intro c hc hcn
  by_cases e : c = j
  · rcases hd with h0 | h1
    · omega
    · rw [e]; exact h1
  · exact h.1 c hc hcn e
theorem up_heap : ∀ (j : Nat) (s : Ps), j < s.xs.length → HeapUp (at' s) s.xs.length j → HeapTo (at' (upS s j)) s.xs.length ∧ (upS s j).xs.Perm s.xs := by
  intro j
  induction j using Nat.strongRecOn with
  | ind j ih =>
    intro s hj h
    rw [upS]
    split
    · rename_i h0; exact ⟨heapUp_done h (.inl h0), List.Perm.refl _⟩
    · split
      · rename_i h0 ha
        have hp : (j - 1) / 2 < s.xs.length := by omega
        have hf : at' (swapS s ((j - 1) / 2) j) = swapF (at' s) ((j - 1) / 2) j := funext fun k => at_swap s _ _ k hp hj
        have h2 := heapUp_step h (by omega) hj ha
        have := ih ((j - 1) / 2) (by omega) (swapS s ((j - 1) / 2) j) (by rw [swap_len]; exact hp) (by rw [hf, swap_len]; exact h2)
        rw [swap_len] at this
        exact ⟨this.1, this.2.trans (swap_perm s _ _ hp hj)⟩
      · rename_i h0 ha
        exact ⟨heapUp_done h (.inr (by rw [nb]; simpa using ha)), List.Perm.refl _⟩
theorem heapDown_step {f : Nat → It} {n i j : Nat} (h : HeapDown f n i) (hji : (j - 1) / 2 = i) (hj0 : 0 < j) (hjn : j < n) (ha : ahead (f j) (f i) = true) (hs : ∀ c, 0 < c → c < n → (c - 1) / 2 = i → nb (f j) (f c)) : HeapDown (swapF f i j) n j := by
  have hij : i ≠ j := by omega
  have e1 : swapF f i j j = f i := if_pos rfl
  have e2 : swapF f i j i = f j := by rw [swapF, if_neg hij, if_pos rfl]
  have e3 : ∀ k, k ≠ j → k ≠ i → swapF f i j k = f k := fun k h1 h2 => by rw [swapF, if_neg h1, if_neg h2]
  refine ⟨fun c hc hcn hne => ?_, fun c hc hcn hpc _ => ?_⟩
  · by_cases h1 : (c - 1) / 2 = i
    · rw [h1, e2]
      by_cases hcj : c = j
      · rw [hcj, e1]; exact nb_of_ahead ha
      · rw [e3 c hcj (by omega)]; exact hs c hc hcn h1
    · rw [e3 _ hne h1]
      by_cases hci : c = i
      · rw [hci, e2]
        have hi0 : 0 < i := by omega
        have := h.2 j hj0 hjn hji hi0
        exact this
      · rw [e3 c (fun e => h1 (e ▸ hji)) hci]; exact h.1 c hc hcn h1
  · have hcj : c ≠ j := by omega
    have hci : c ≠ i := by omega
    rw [hji, e2, e3 c hcj hci]
    have := h.1 c hc hcn (by omega)
    rwa [hpc] at this
theorem heapDown_done {f : Nat → It} {n i : Nat} (h : HeapDown f n i) (hd : ∀ c, 0 < c → c < n → (c - 1) / 2 = i → nb (f i) (f c)) : HeapTo f n := by
  intro c hc hcn
  by_cases e : (c - 1) / 2 = i
  · rw [e]; exact hd c hc hcn e
  · exact h.1 c hc hcn e
theorem down_heap (n : Nat) : ∀ (d : Nat) (s : Ps) (i : Nat), n - i ≤ d → n ≤ s.xs.length → HeapDown (at' s) n i → HeapTo (at' (downS s i n).1) n ∧ (downS s i n).1.xs.Perm s.xs ∧ ∀ k, n ≤ k → at' (downS s i n).1 k = at' s k := by
  intro d
  induction d with
  | zero =>
    intro s i hd hn h
    rw [downS, dif_pos (by omega)]
    exact ⟨heapDown_done h (fun c hc hcn e => by omega), List.Perm.refl _, fun _ _ => rfl⟩
  | succ d ih =>
    intro s i hd hn h
    rw [downS]
    split
    · exact ⟨heapDown_done h (fun c hc hcn e => by omega), List.Perm.refl _, fun _ _ => rfl⟩
    · rename_i hlt
      have hjn := downJ_lt s i n hlt
      have hji : (downJ s i n - 1) / 2 = i := by unfold downJ; split <;> omega
      have hj0 : 0 < downJ s i n := by unfold downJ; split <;> omega
      have hmin : ∀ c, 0 < c → c < n → (c - 1) / 2 = i → nb (at' s (downJ s i n)) (at' s c) := by
        intro c hc hcn e
        have hcase : c = 2 * i + 1 ∨ c = 2 * i + 2 := by omega
        unfold downJ
        split
        · rename_i hh
          rcases hcase with rfl | rfl
          · exact nb_of_ahead hh.2
          · exact ahead_irrefl _
        · rename_i hh
          rcases hcase with rfl | rfl
          · exact ahead_irrefl _
          · cases hb : ahead (at' s (2 * i + 2)) (at' s (2 * i + 1)) with
            | false => exact hb
            | true => exact absurd ⟨hcn, hb⟩ hh
      split
      · rename_i ha
        have hj2 : downJ s i n < s.xs.length := by omega
        have hi2 : i < s.xs.length := by omega
        have hf : at' (swapS s i (downJ s i n)) = swapF (at' s) i (downJ s i n) := funext fun k => at_swap s _ _ k hi2 hj2
        have := ih (swapS s i (downJ s i n)) (downJ s i n) (by have := downJ_gt s i n; omega) (by rw [swap_len]; exact hn) (by rw [hf]; exact heapDown_step h hji hj0 hjn ha hmin)
        refine ⟨this.1, this.2.1.trans (swap_perm s _ _ hi2 hj2), fun k hk => ?_⟩
        rw [this.2.2 k hk, hf, swapF, if_neg (by omega), if_neg (by omega)]
      · rename_i ha
        refine ⟨heapDown_done h fun c hc hcn e => ?_, List.Perm.refl _, fun _ _ => rfl⟩
        have ha' : nb (at' s i) (at' s (downJ s i n)) := by simpa [nb] using ha
        exact nb_trans ha' (hmin c hc hcn e)
/-- The root stands ahead. -/
theorem heap_root {f : Nat → It} {n : Nat} (h : HeapTo f n) : ∀ c, c < n → nb (f 0) (f c) := by
  intro c
  induction c using Nat.strongRecOn with
  | ind c ih =>
    intro hc
    by_cases h0 : c = 0
    · rw [h0]; exact ahead_irrefl _
    · exact nb_trans (ih ((c - 1) / 2) (by omega) (by omega)) (h c (by omega) hc)
/-! The places by seq. -/
def MapOK (s : Ps) : Prop := ∀ k v, mlook k s.m = some v ↔ ∃ i, i < s.xs.length ∧ (at' s i).b = k ∧ v = (i : Int)
theorem MapOK.inj {s : Ps} (h : MapOK s) {i j : Nat} (hi : i < s.xs.length) (hj : j < s.xs.length) (e : (at' s i).b = (at' s j).b) : i = j := by
  have h1 := (h (at' s i).b i).2 ⟨i, hi, rfl, rfl⟩
  have h2 := (h (at' s i).b j).2 ⟨j, hj, e.symm, rfl⟩
  rw [h1] at h2
  have : (i : Int) = j := Option.some.inj h2
  omega
theorem MapOK.swap {s : Ps} (h : MapOK s) {i j : Nat} (hi : i < s.xs.length) (hj : j < s.xs.length) : MapOK (swapS s i j) := by
  intro k v
  have hm : mlook k (swapS s i j).m = if k = (at' s i).b then some (j : Int) else if k = (at' s j).b then some (i : Int) else mlook k s.m := by
    show mlook k (swapM s i j) = _
    rw [swapM, mlook_mset, mlook_mset]
  rw [hm]
  by_cases h1 : k = (at' s i).b
  · rw [if_pos h1]
    constructor
    · intro e
      refine ⟨j, by rw [swap_len]; exact hj, ?_, (Option.some.inj e).symm⟩
      rw [at_swap s i j j hi hj, swapF, if_pos rfl, h1]
    · rintro ⟨c, hc, hcb, rfl⟩
      rw [swap_len] at hc
      rw [at_swap s i j c hi hj, swapF] at hcb
      split at hcb
      · rename_i e; rw [e]
      · split at hcb
        · rename_i e1 e2
          have := h.inj hj hi (hcb.trans h1)
          omega
        · rename_i e1 e2
          have := h.inj hc hi (hcb.trans h1)
          exact absurd this e2
  · rw [if_neg h1]
    by_cases h2 : k = (at' s j).b
    · rw [if_pos h2]
      constructor
      · intro e
        refine ⟨i, by rw [swap_len]; exact hi, ?_, (Option.some.inj e).symm⟩
        rw [at_swap s i j i hi hj, swapF]
        split
        · rename_i e1; rw [h2, e1]
        · rw [if_pos rfl, h2]
      · rintro ⟨c, hc, hcb, rfl⟩
        rw [swap_len] at hc
        rw [at_swap s i j c hi hj, swapF] at hcb
        split at hcb
        · exact absurd hcb.symm h1
        · split at hcb
          · rename_i e1 e2; rw [e2]
          · rename_i e1 e2
            exact absurd (h.inj hc hj (hcb.trans h2)) e1
    · rw [if_neg h2, h k v]
      constructor
      · rintro ⟨c, hc, hcb, hv⟩
        refine ⟨c, by rw [swap_len]; exact hc, ?_, hv⟩
        rw [at_swap s i j c hi hj, swapF, if_neg (fun e => h2 (by rw [← e, hcb])), if_neg (fun e => h1 (by rw [← e, hcb]))]
        exact hcb
      · rintro ⟨c, hc, hcb, hv⟩
        rw [swap_len] at hc
        rw [at_swap s i j c hi hj, swapF] at hcb
        split at hcb
        · exact absurd hcb.symm h1
        · split at hcb
          · exact absurd hcb.symm h2
          · exact ⟨c, hc, hcb, hv⟩
theorem up_map : ∀ (j : Nat) (s : Ps), j < s.xs.length → MapOK s → MapOK (upS s j) := by
  intro j
  induction j using Nat.strongRecOn with
  | ind j ih =>
    intro s hj h
    rw [upS]
    split
    · exact h
    · split
      · have hp : (j - 1) / 2 < s.xs.length := by omega
        exact ih ((j - 1) / 2) (by omega) _ (by rw [swap_len]; exact hp) (h.swap hp hj)
      · exact h
theorem down_map (n : Nat) : ∀ (d : Nat) (s : Ps) (i : Nat), n - i ≤ d → n ≤ s.xs.length → MapOK s → MapOK (downS s i n).1 := by
  intro d
  induction d with
  | zero =>
    intro s i hd hn h
    rw [downS, dif_pos (by omega)]
    exact h
  | succ d ih =>
    intro s i hd hn h
    rw [downS]
    split
    · exact h
    · rename_i hlt
      have hjn := downJ_lt s i n hlt
      have hg := downJ_gt s i n
      split
      · exact ih _ _ (by omega) (by rw [swap_len]; exact hn) (h.swap (by omega) (by omega))
      · exact h
end Go.Proofs.Ytcpijmlaglcblaa.Rk

/- container/heap on a pile; a Line's methods: runs. -/
set_option linter.unusedVariables false
set_option linter.unusedSimpArgs false
set_option maxRecDepth 100000
namespace Go.Proofs.Ytcpijmlaglcblaa.Rk
open Go Go.RowKit Go.Proofs.Ytcpijmlaglcblaa.Eng
noncomputable section
def upL : List AV → AP (AX × List AV) := fun tmps => match tmps with
  | .iface _ (.ptr i 0) :: .v (.int .i64 j) :: _ => .read i fun o => match o with
    | .own (.pile s) _ => .need (0 ≤ j ∧ j.toNat < s.xs.length ∧ PI s) (useG (fun _ => i) (upA j.toNat) tmps [(0, pO s)] (.leaf (.exit 0) (anys 23) [(0, pO (upS s j.toNat))]))
    | _ => .fail "up"
  | _ => .fail "up"
def downL : List AV → AP (AX × List AV) := fun tmps => match tmps with
  | .iface _ (.ptr p 0) :: .v (.int .i64 i0) :: .v (.int .i64 n) :: _ :: _ :: _ :: _ :: .v (.int .i64 i) :: _ => .read p fun o => match o with
    | .own (.pile s) _ => .need (0 ≤ i0 ∧ 0 ≤ n ∧ 0 ≤ i ∧ n.toNat ≤ s.xs.length ∧ i.toNat ≤ s.xs.length ∧ PI s) (useG (fun _ => p) (downA i0.toNat n.toNat i.toNat) tmps [(0, pO s)] (.leaf (.exit 0) (downA i0.toNat n.toNat (downS s i.toNat n.toNat).2) [(0, pO (downS s i.toNat n.toNat).1)]))
    | _ => .fail "down"
  | _ => .fail "down"
theorem oUpF_eq (s : Ps) (j : Nat) (F : HP) : oRun [] noHints [(fUp, 0, loopOf fUp, upL)] fUp [hI, iv (Int.ofNat j)] [(0, pO s)] [0] F = VT.leaf (AV.tuple []) [some (AO.own (Md.pile (upS s j)) (pH (upS s j)))] 1100 ((Cnd.p ((fUp, 0, loopOf fUp, upL).snd.snd.fst = (fUp, 0, loopOf fUp, upL).snd.snd.fst)).a ((Cnd.p (Int.ofNat 0 ≤ Int.ofNat j ∧ j < s.xs.length ∧ PI s)).a ((Cnd.p (VW [AV.iface 53 (AV.ptr 0 0), AV.v (Value.int IntKind.i64 (Int.ofNat j)), AV.v (Value.tuple (Array.mk [])), AV.v (Value.tuple (Array.mk [])), AV.v (Value.tuple (Array.mk [])), AV.v (Value.tuple (Array.mk [])), AV.v (Value.tuple (Array.mk [])), AV.v (Value.tuple (Array.mk [])), AV.v (Value.tuple (Array.mk [])), AV.v (Value.tuple (Array.mk [])), AV.v (Value.tuple (Array.mk [])), AV.v (Value.tuple (Array.mk [])), AV.v (Value.tuple (Array.mk [])), AV.v (Value.tuple (Array.mk [])), AV.v (Value.tuple (Array.mk [])), AV.v (Value.tuple (Array.mk [])), AV.v (Value.tuple (Array.mk [])), AV.v (Value.tuple (Array.mk [])), AV.v (Value.tuple (Array.mk [])), AV.v (Value.tuple (Array.mk [])), AV.v (Value.tuple (Array.mk [])), AV.v (Value.tuple (Array.mk [])), AV.v (Value.tuple (Array.mk []))] [AV.iface 53 (AV.ptr 0 0), AV.v (Value.int IntKind.i64 (Int.ofNat j)), AV.any, AV.any, AV.any, AV.any, AV.any, AV.any, AV.any, AV.any, AV.any, AV.any, AV.any, AV.any, AV.any, AV.any, AV.any, AV.any, AV.any, AV.any, AV.any, AV.any, AV.any])).a ((Cnd.p (OW (AO.own (Md.pile s) (pH s)) (AO.own (Md.pile s) (pH s)))).a Cnd.t)))) := by kernel_rfl
theorem oDownF_eq (s : Ps) (i n : Nat) (F : HP) : oRun [] noHints [(fDown, 2, loopOf fDown, downL)] fDown [hI, iv (Int.ofNat i), iv (Int.ofNat n)] [(0, pO s)] [0] F = VT.leaf (AV.v (Value.bool (decide (Int.ofNat (downS s i n).snd > Int.ofNat i)))) [some (AO.own (Md.pile (downS s i n).fst) (pH (downS s i n).fst))] 1100 ((Cnd.p ((fDown, 2, loopOf fDown, downL).snd.snd.fst = (fDown, 2, loopOf fDown, downL).snd.snd.fst)).a ((Cnd.p (Int.ofNat 0 ≤ Int.ofNat i ∧ Int.ofNat 0 ≤ Int.ofNat n ∧ Int.ofNat 0 ≤ Int.ofNat i ∧ n ≤ s.xs.length ∧ i ≤ s.xs.length ∧ PI s)).a ((Cnd.p (VW [AV.iface 53 (AV.ptr 0 0), AV.v (Value.int IntKind.i64 (Int.ofNat i)), AV.v (Value.int IntKind.i64 (Int.ofNat n)), AV.v (Value.tuple (Array.mk [])), AV.v (Value.tuple (Array.mk [])), AV.v (Value.tuple (Array.mk [])), AV.v (Value.bool false), AV.v (Value.int IntKind.i64 (Int.ofNat i)), AV.v (Value.tuple (Array.mk [])), AV.v (Value.tuple (Array.mk [])), AV.v (Value.tuple (Array.mk [])), AV.v (Value.int IntKind.i64 (Int.ofNat i)), AV.v (Value.tuple (Array.mk [])), AV.v (Value.tuple (Array.mk [])), AV.v (Value.tuple (Array.mk [])), AV.v (Value.tuple (Array.mk [])), AV.v (Value.tuple (Array.mk [])), AV.v (Value.tuple (Array.mk [])), AV.v (Value.tuple (Array.mk [])), AV.v (Value.tuple (Array.mk [])), AV.v (Value.tuple (Array.mk [])), AV.v (Value.tuple (Array.mk [])), AV.v (Value.tuple (Array.mk [])), AV.v (Value.tuple (Array.mk [])), AV.v (Value.tuple (Array.mk [])), AV.v (Value.tuple (Array.mk [])), AV.v (Value.tuple (Array.mk [])), AV.v (Value.tuple (Array.mk [])), AV.v (Value.tuple (Array.mk [])), AV.v (Value.tuple (Array.mk [])), AV.v (Value.tuple (Array.mk [])), AV.v (Value.tuple (Array.mk [])), AV.v (Value.tuple (Array.mk [])), AV.v (Value.tuple (Array.mk [])), AV.v (Value.tuple (Array.mk [])), AV.v (Value.tuple (Array.mk [])), AV.v (Value.tuple (Array.mk [])), AV.v (Value.tuple (Array.mk [])), AV.v (Value.tuple (Array.mk [])), AV.v (Value.tuple (Array.mk [])), AV.v (Value.tuple (Array.mk [])), AV.v (Value.tuple (Array.mk [])), AV.v (Value.tuple (Array.mk [])), AV.v (Value.tuple (Array.mk [])), AV.v (Value.tuple (Array.mk [])), AV.v (Value.tuple (Array.mk [])), AV.v (Value.tuple (Array.mk [])), AV.v (Value.tuple (Array.mk []))] [AV.iface 53 (AV.ptr 0 0), AV.v (Value.int IntKind.i64 (Int.ofNat i)), AV.v (Value.int IntKind.i64 (Int.ofNat n)), AV.any, AV.any, AV.any, AV.any, AV.v (Value.int IntKind.i64 (Int.ofNat i)), AV.any, AV.any, AV.any, AV.any, AV.any, AV.any, AV.any, AV.any, AV.any, AV.any, AV.any, AV.any, AV.any, AV.any, AV.any, AV.any, AV.any, AV.any, AV.any, AV.any, AV.any, AV.any, AV.any, AV.any, AV.any, AV.any, AV.any, AV.any, AV.any, AV.any, AV.any, AV.any, AV.any, AV.any, AV.any, AV.any, AV.any, AV.any, AV.any, AV.any])).a ((Cnd.p (OW (AO.own (Md.pile s) (pH s)) (AO.own (Md.pile s) (pH s)))).a Cnd.t)))) := by kernel_rfl
def cUp : List AV → Option (AP AV) := fun args => match args with
  | [.iface t (.ptr i 0), .v (.int .i64 j)] => some (.need (t = 53) (ownC i fun m => match m with
    | .pile s => .need (0 ≤ j ∧ j.toNat < s.xs.length ∧ PI s) (onPile s [hI, iv j] args i (.tuple []) (pO (upS s j.toNat)))
    | _ => .fail "pile"))
  | _ => none
def cDown : List AV → Option (AP AV) := fun args => match args with
  | [.iface t (.ptr p 0), .v (.int .i64 i), .v (.int .i64 n)] => some (.need (t = 53) (ownC p fun m => match m with
    | .pile s => .need (0 ≤ n ∧ 0 ≤ i ∧ n.toNat ≤ s.xs.length ∧ i.toNat ≤ s.xs.length ∧ PI s) (onPile s [hI, iv i, iv n] args p (.v (.bool (decide (i.toNat < (downS s i.toNat n.toNat).2)))) (pO (downS s i.toNat n.toNat).1))
    | _ => .fail "pile"))
  | _ => none
def conH : List (FuncId × (List AV → Option (AP AV))) := (fUp, cUp) :: (fDown, cDown) :: conP
abbrev fHPush : Nat := 18
abbrev fHPop : Nat := 19
abbrev fHRem : Nat := 24
def itF (x : It) : AV := .iface 27 (itA x)
theorem oHPush_eq (s : Ps) (x : It) (F : HP) : oRun conH (hintL [(fHPush, 1, 3, hv (iv (Int.ofNat s.xs.length)))]) [] fHPush [hI, itF x] [(0, pO s)] [0] F = VT.leaf (AV.tuple []) [some (AO.own (Md.pile (upS (pushS s (It.mk x.a x.b x.c)) (Int.ofNat s.xs.length).toNat)) (pH (upS (pushS s (It.mk x.a x.b x.c)) (Int.ofNat s.xs.length).toNat)))] 1100 (((Cnd.p (27 = 27)).a ((Cnd.p (Room s)).a ((Cnd.p (VW [AV.ptr 0 0, AV.iface 27 (AV.agg [AV.v (Value.int IntKind.i64 x.a), AV.v (Value.int IntKind.i64 x.b), AV.v (Value.int IntKind.i64 x.c)])] [AV.ptr 0 0, AV.iface 27 (AV.agg [AV.v (Value.int IntKind.i64 x.a), AV.v (Value.int IntKind.i64 x.b), AV.v (Value.int IntKind.i64 x.c)])])).a ((Cnd.p (OW (AO.own (Md.pile s) (pH s)) (AO.own (Md.pile s) (pH s)))).a Cnd.t)))).a (((Cnd.p (VW [AV.ptr 0 0] [AV.ptr 0 0])).a ((Cnd.p (OW (AO.own (Md.pile (pushS s (It.mk x.a x.b x.c))) (pH (pushS s (It.mk x.a x.b x.c)))) (AO.own (Md.pile (pushS s (It.mk x.a x.b x.c))) (pH (pushS s (It.mk x.a x.b x.c)))))).a Cnd.t)).a (((Cnd.p (Wk (AV.v (Value.int IntKind.i64 (IntKind.i64.wrap (Int.ofNat (s.xs ++ [It.mk x.a x.b x.c]).length - Int.ofNat 1)))) (AV.v (Value.int IntKind.i64 (Int.ofNat s.xs.length))))).a Cnd.t).a (((Cnd.p (53 = 53)).a ((Cnd.p (Int.ofNat 0 ≤ Int.ofNat s.xs.length ∧ (Int.ofNat s.xs.length).toNat < (s.xs ++ [It.mk x.a x.b x.c]).length ∧ PI (pushS s (It.mk x.a x.b x.c)))).a ((Cnd.p (VW [AV.iface 53 (AV.ptr 0 0), AV.v (Value.int IntKind.i64 (Int.ofNat s.xs.length))] [AV.iface 53 (AV.ptr 0 0), AV.v (Value.int IntKind.i64 (Int.ofNat s.xs.length))])).a ((Cnd.p (OW (AO.own (Md.pile (pushS s (It.mk x.a x.b x.c))) (pH (pushS s (It.mk x.a x.b x.c)))) (AO.own (Md.pile (pushS s (It.mk x.a x.b x.c))) (pH (pushS s (It.mk x.a x.b x.c)))))).a Cnd.t)))).a Cnd.t)))) := by kernel_rfl
theorem oHPush0_eq (x : It) (F : HP) : oRun conH (hintL [(fHPush, 1, 3, hv (iv (Int.ofNat 0)))]) [] fHPush [hI, itF x] [(0, pO0)] [0] F = VT.leaf (AV.tuple []) [some (AO.own (Md.pile (upS (pushS (Ps.mk [] [] [] 0) (It.mk x.a x.b x.c)) 0)) (pH (upS (pushS (Ps.mk [] [] [] 0) (It.mk x.a x.b x.c)) 0)))] 1100 (((Cnd.p (27 = 27)).a ((Cnd.p (VW [AV.ptr 0 0, AV.iface 27 (AV.agg [AV.v (Value.int IntKind.i64 x.a), AV.v (Value.int IntKind.i64 x.b), AV.v (Value.int IntKind.i64 x.c)])] [AV.ptr 0 0, AV.iface 27 (AV.agg [AV.v (Value.int IntKind.i64 x.a), AV.v (Value.int IntKind.i64 x.b), AV.v (Value.int IntKind.i64 x.c)])])).a ((Cnd.p (OW (AO.own Md.pile0 pH0) (AO.own Md.pile0 pH0))).a Cnd.t))).a (((Cnd.p (VW [AV.ptr 0 0] [AV.ptr 0 0])).a ((Cnd.p (OW (AO.own (Md.pile (pushS (Ps.mk [] [] [] 0) (It.mk x.a x.b x.c))) (pH (pushS (Ps.mk [] [] [] 0) (It.mk x.a x.b x.c)))) (AO.own (Md.pile (pushS (Ps.mk [] [] [] 0) (It.mk x.a x.b x.c))) (pH (pushS (Ps.mk [] [] [] 0) (It.mk x.a x.b x.c)))))).a Cnd.t)).a (((Cnd.p (Wk (AV.v (Value.int IntKind.i64 (Int.ofNat 0))) (AV.v (Value.int IntKind.i64 (Int.ofNat 0))))).a Cnd.t).a (((Cnd.p (53 = 53)).a ((Cnd.p (Int.ofNat 0 ≤ Int.ofNat 0 ∧ 0 < 1 ∧ PI (pushS (Ps.mk [] [] [] 0) (It.mk x.a x.b x.c)))).a ((Cnd.p (VW [AV.iface 53 (AV.ptr 0 0), AV.v (Value.int IntKind.i64 (Int.ofNat 0))] [AV.iface 53 (AV.ptr 0 0), AV.v (Value.int IntKind.i64 (Int.ofNat 0))])).a ((Cnd.p (OW (AO.own (Md.pile (pushS (Ps.mk [] [] [] 0) (It.mk x.a x.b x.c))) (pH (pushS (Ps.mk [] [] [] 0) (It.mk x.a x.b x.c)))) (AO.own (Md.pile (pushS (Ps.mk [] [] [] 0) (It.mk x.a x.b x.c))) (pH (pushS (Ps.mk [] [] [] 0) (It.mk x.a x.b x.c)))))).a Cnd.t)))).a Cnd.t)))) := by kernel_rfl
theorem oHPop_eq (s : Ps) (F : HP) : oRun conH (hintL [(fHPop, 1, 2, hv (iv (Int.ofNat (s.xs.length - 1))))]) [] fHPop [hI] [(0, pO s)] [0] F = VT.leaf (AV.iface 27 (AV.agg [AV.v (Value.int IntKind.i64 (at' (downS (swapS s 0 (Int.ofNat (s.xs.length - 1)).toNat) 0 (Int.ofNat (s.xs.length - 1)).toNat).fst ((downS (swapS s 0 (Int.ofNat (s.xs.length - 1)).toNat) 0 (Int.ofNat (s.xs.length - 1)).toNat).fst.xs.length - 1)).a), AV.v (Value.int IntKind.i64 (at' (downS (swapS s 0 (Int.ofNat (s.xs.length - 1)).toNat) 0 (Int.ofNat (s.xs.length - 1)).toNat).fst ((downS (swapS s 0 (Int.ofNat (s.xs.length - 1)).toNat) 0 (Int.ofNat (s.xs.length - 1)).toNat).fst.xs.length - 1)).b), AV.v (Value.int IntKind.i64 (at' (downS (swapS s 0 (Int.ofNat (s.xs.length - 1)).toNat) 0 (Int.ofNat (s.xs.length - 1)).toNat).fst ((downS (swapS s 0 (Int.ofNat (s.xs.length - 1)).toNat) 0 (Int.ofNat (s.xs.length - 1)).toNat).fst.xs.length - 1)).c)])) [some (AO.own (Md.pile (popS (downS (swapS s 0 (Int.ofNat (s.xs.length - 1)).toNat) 0 (Int.ofNat (s.xs.length - 1)).toNat).fst)) (pH (popS (downS (swapS s 0 (Int.ofNat (s.xs.length - 1)).toNat) 0 (Int.ofNat (s.xs.length - 1)).toNat).fst)))] 1100 (((Cnd.p (VW [AV.ptr 0 0] [AV.ptr 0 0])).a ((Cnd.p (OW (AO.own (Md.pile s) (pH s)) (AO.own (Md.pile s) (pH s)))).a Cnd.t)).a (((Cnd.p (Wk (AV.v (Value.int IntKind.i64 (IntKind.i64.wrap (Int.ofNat s.xs.length - Int.ofNat 1)))) (AV.v (Value.int IntKind.i64 (Int.ofNat (s.xs.length - 1)))))).a Cnd.t).a (((Cnd.p (Int.ofNat 0 ≤ Int.ofNat 0 ∧ 0 < s.xs.length ∧ Int.ofNat 0 ≤ Int.ofNat (s.xs.length - 1) ∧ (Int.ofNat (s.xs.length - 1)).toNat < s.xs.length ∧ MI s.m s.ck)).a ((Cnd.p (VW [AV.ptr 0 0, AV.v (Value.int IntKind.i64 (Int.ofNat 0)), AV.v (Value.int IntKind.i64 (Int.ofNat (s.xs.length - 1)))] [AV.ptr 0 0, AV.v (Value.int IntKind.i64 (Int.ofNat 0)), AV.v (Value.int IntKind.i64 (Int.ofNat (s.xs.length - 1)))])).a ((Cnd.p (OW (AO.own (Md.pile s) (pH s)) (AO.own (Md.pile s) (pH s)))).a Cnd.t))).a (((Cnd.p (53 = 53)).a ((Cnd.p (Int.ofNat 0 ≤ Int.ofNat (s.xs.length - 1) ∧ Int.ofNat 0 ≤ Int.ofNat 0 ∧ (Int.ofNat (s.xs.length - 1)).toNat ≤ ((s.xs.set 0 (at' s (Int.ofNat (s.xs.length - 1)).toNat)).set (Int.ofNat (s.xs.length - 1)).toNat (at' s 0)).length ∧ 0 ≤ ((s.xs.set 0 (at' s (Int.ofNat (s.xs.length - 1)).toNat)).set (Int.ofNat (s.xs.length - 1)).toNat (at' s 0)).length ∧ PI (swapS s 0 (Int.ofNat (s.xs.length - 1)).toNat))).a ((Cnd.p (VW [AV.iface 53 (AV.ptr 0 0), AV.v (Value.int IntKind.i64 (Int.ofNat 0)), AV.v (Value.int IntKind.i64 (Int.ofNat (s.xs.length - 1)))] [AV.iface 53 (AV.ptr 0 0), AV.v (Value.int IntKind.i64 (Int.ofNat 0)), AV.v (Value.int IntKind.i64 (Int.ofNat (s.xs.length - 1)))])).a ((Cnd.p (OW (AO.own (Md.pile (swapS s 0 (Int.ofNat (s.xs.length - 1)).toNat)) (pH (swapS s 0 (Int.ofNat (s.xs.length - 1)).toNat))) (AO.own (Md.pile (swapS s 0 (Int.ofNat (s.xs.length - 1)).toNat)) (pH (swapS s 0 (Int.ofNat (s.xs.length - 1)).toNat))))).a Cnd.t)))).a (((Cnd.p (0 < (downS (swapS s 0 (Int.ofNat (s.xs.length - 1)).toNat) 0 (Int.ofNat (s.xs.length - 1)).toNat).fst.xs.length ∧ (downS (swapS s 0 (Int.ofNat (s.xs.length - 1)).toNat) 0 (Int.ofNat (s.xs.length - 1)).toNat).fst.xs.length ≤ 9223372036854775807)).a ((Cnd.p (VW [AV.ptr 0 0] [AV.ptr 0 0])).a ((Cnd.p (OW (AO.own (Md.pile (downS (swapS s 0 (Int.ofNat (s.xs.length - 1)).toNat) 0 (Int.ofNat (s.xs.length - 1)).toNat).fst) (pH (downS (swapS s 0 (Int.ofNat (s.xs.length - 1)).toNat) 0 (Int.ofNat (s.xs.length - 1)).toNat).fst)) (AO.own (Md.pile (downS (swapS s 0 (Int.ofNat (s.xs.length - 1)).toNat) 0 (Int.ofNat (s.xs.length - 1)).toNat).fst) (pH (downS (swapS s 0 (Int.ofNat (s.xs.length - 1)).toNat) 0 (Int.ofNat (s.xs.length - 1)).toNat).fst)))).a Cnd.t))).a Cnd.t))))) := by kernel_rfl
theorem oHRem_eq (s : Ps) (i : Nat) (F : HP) : oRun conH (hintL [(fHRem, 1, 2, hv (iv (Int.ofNat (s.xs.length - 1))))]) [] fHRem [hI, iv (Int.ofNat i)] [(0, pO s)] [0] F = VT.ite (Int.ofNat (s.xs.length - 1) != Int.ofNat i) (VT.ite (!decide (i < (downS (swapS s i (Int.ofNat (s.xs.length - 1)).toNat) i (Int.ofNat (s.xs.length - 1)).toNat).snd)) (VT.leaf (AV.iface 27 (AV.agg [AV.v (Value.int IntKind.i64 (at' (upS (downS (swapS s i (Int.ofNat (s.xs.length - 1)).toNat) i (Int.ofNat (s.xs.length - 1)).toNat).fst i) ((upS (downS (swapS s i (Int.ofNat (s.xs.length - 1)).toNat) i (Int.ofNat (s.xs.length - 1)).toNat).fst i).xs.length - 1)).a), AV.v (Value.int IntKind.i64 (at' (upS (downS (swapS s i (Int.ofNat (s.xs.length - 1)).toNat) i (Int.ofNat (s.xs.length - 1)).toNat).fst i) ((upS (downS (swapS s i (Int.ofNat (s.xs.length - 1)).toNat) i (Int.ofNat (s.xs.length - 1)).toNat).fst i).xs.length - 1)).b), AV.v (Value.int IntKind.i64 (at' (upS (downS (swapS s i (Int.ofNat (s.xs.length - 1)).toNat) i (Int.ofNat (s.xs.length - 1)).toNat).fst i) ((upS (downS (swapS s i (Int.ofNat (s.xs.length - 1)).toNat) i (Int.ofNat (s.xs.length - 1)).toNat).fst i).xs.length - 1)).c)])) [some (AO.own (Md.pile (popS (upS (downS (swapS s i (Int.ofNat (s.xs.length - 1)).toNat) i (Int.ofNat (s.xs.length - 1)).toNat).fst i))) (pH (popS (upS (downS (swapS s i (Int.ofNat (s.xs.length - 1)).toNat) i (Int.ofNat (s.xs.length - 1)).toNat).fst i))))] 1100 (((Cnd.p (VW [AV.ptr 0 0] [AV.ptr 0 0])).a ((Cnd.p (OW (AO.own (Md.pile s) (pH s)) (AO.own (Md.pile s) (pH s)))).a Cnd.t)).a (((Cnd.p (Wk (AV.v (Value.int IntKind.i64 (IntKind.i64.wrap (Int.ofNat s.xs.length - Int.ofNat 1)))) (AV.v (Value.int IntKind.i64 (Int.ofNat (s.xs.length - 1)))))).a Cnd.t).a (((Cnd.p (Int.ofNat 0 ≤ Int.ofNat i ∧ i < s.xs.length ∧ Int.ofNat 0 ≤ Int.ofNat (s.xs.length - 1) ∧ (Int.ofNat (s.xs.length - 1)).toNat < s.xs.length ∧ MI s.m s.ck)).a ((Cnd.p (VW [AV.ptr 0 0, AV.v (Value.int IntKind.i64 (Int.ofNat i)), AV.v (Value.int IntKind.i64 (Int.ofNat (s.xs.length - 1)))] [AV.ptr 0 0, AV.v (Value.int IntKind.i64 (Int.ofNat i)), AV.v (Value.int IntKind.i64 (Int.ofNat (s.xs.length - 1)))])).a ((Cnd.p (OW (AO.own (Md.pile s) (pH s)) (AO.own (Md.pile s) (pH s)))).a Cnd.t))).a (((Cnd.p (53 = 53)).a ((Cnd.p (Int.ofNat 0 ≤ Int.ofNat (s.xs.length - 1) ∧ Int.ofNat 0 ≤ Int.ofNat i ∧ (Int.ofNat (s.xs.length - 1)).toNat ≤ ((s.xs.set i (at' s (Int.ofNat (s.xs.length - 1)).toNat)).set (Int.ofNat (s.xs.length - 1)).toNat (at' s i)).length ∧ i ≤ ((s.xs.set i (at' s (Int.ofNat (s.xs.length - 1)).toNat)).set (Int.ofNat (s.xs.length - 1)).toNat (at' s i)).length ∧ PI (swapS s i (Int.ofNat (s.xs.length - 1)).toNat))).a ((Cnd.p (VW [AV.iface 53 (AV.ptr 0 0), AV.v (Value.int IntKind.i64 (Int.ofNat i)), AV.v (Value.int IntKind.i64 (Int.ofNat (s.xs.length - 1)))] [AV.iface 53 (AV.ptr 0 0), AV.v (Value.int IntKind.i64 (Int.ofNat i)), AV.v (Value.int IntKind.i64 (Int.ofNat (s.xs.length - 1)))])).a ((Cnd.p (OW (AO.own (Md.pile (swapS s i (Int.ofNat (s.xs.length - 1)).toNat)) (pH (swapS s i (Int.ofNat (s.xs.length - 1)).toNat))) (AO.own (Md.pile (swapS s i (Int.ofNat (s.xs.length - 1)).toNat)) (pH (swapS s i (Int.ofNat (s.xs.length - 1)).toNat))))).a Cnd.t)))).a (((Cnd.p (53 = 53)).a ((Cnd.p (Int.ofNat 0 ≤ Int.ofNat i ∧ i < (downS (swapS s i (Int.ofNat (s.xs.length - 1)).toNat) i (Int.ofNat (s.xs.length - 1)).toNat).fst.xs.length ∧ PI (downS (swapS s i (Int.ofNat (s.xs.length - 1)).toNat) i (Int.ofNat (s.xs.length - 1)).toNat).fst)).a ((Cnd.p (VW [AV.iface 53 (AV.ptr 0 0), AV.v (Value.int IntKind.i64 (Int.ofNat i))] [AV.iface 53 (AV.ptr 0 0), AV.v (Value.int IntKind.i64 (Int.ofNat i))])).a ((Cnd.p (OW (AO.own (Md.pile (downS (swapS s i (Int.ofNat (s.xs.length - 1)).toNat) i (Int.ofNat (s.xs.length - 1)).toNat).fst) (pH (downS (swapS s i (Int.ofNat (s.xs.length - 1)).toNat) i (Int.ofNat (s.xs.length - 1)).toNat).fst)) (AO.own (Md.pile (downS (swapS s i (Int.ofNat (s.xs.length - 1)).toNat) i (Int.ofNat (s.xs.length - 1)).toNat).fst) (pH (downS (swapS s i (Int.ofNat (s.xs.length - 1)).toNat) i (Int.ofNat (s.xs.length - 1)).toNat).fst)))).a Cnd.t)))).a (((Cnd.p (0 < (upS (downS (swapS s i (Int.ofNat (s.xs.length - 1)).toNat) i (Int.ofNat (s.xs.length - 1)).toNat).fst i).xs.length ∧ (upS (downS (swapS s i (Int.ofNat (s.xs.length - 1)).toNat) i (Int.ofNat (s.xs.length - 1)).toNat).fst i).xs.length ≤ 9223372036854775807)).a ((Cnd.p (VW [AV.ptr 0 0] [AV.ptr 0 0])).a ((Cnd.p (OW (AO.own (Md.pile (upS (downS (swapS s i (Int.ofNat (s.xs.length - 1)).toNat) i (Int.ofNat (s.xs.length - 1)).toNat).fst i)) (pH (upS (downS (swapS s i (Int.ofNat (s.xs.length - 1)).toNat) i (Int.ofNat (s.xs.length - 1)).toNat).fst i))) (AO.own (Md.pile (upS (downS (swapS s i (Int.ofNat (s.xs.length - 1)).toNat) i (Int.ofNat (s.xs.length - 1)).toNat).fst i)) (pH (upS (downS (swapS s i (Int.ofNat (s.xs.length - 1)).toNat) i (Int.ofNat (s.xs.length - 1)).toNat).fst i))))).a Cnd.t))).a Cnd.t))))))) (VT.leaf (AV.iface 27 (AV.agg [AV.v (Value.int IntKind.i64 (at' (downS (swapS s i (Int.ofNat (s.xs.length - 1)).toNat) i (Int.ofNat (s.xs.length - 1)).toNat).fst ((downS (swapS s i (Int.ofNat (s.xs.length - 1)).toNat) i (Int.ofNat (s.xs.length - 1)).toNat).fst.xs.length - 1)).a), AV.v (Value.int IntKind.i64 (at' (downS (swapS s i (Int.ofNat (s.xs.length - 1)).toNat) i (Int.ofNat (s.xs.length - 1)).toNat).fst ((downS (swapS s i (Int.ofNat (s.xs.length - 1)).toNat) i (Int.ofNat (s.xs.length - 1)).toNat).fst.xs.length - 1)).b), AV.v (Value.int IntKind.i64 (at' (downS (swapS s i (Int.ofNat (s.xs.length - 1)).toNat) i (Int.ofNat (s.xs.length - 1)).toNat).fst ((downS (swapS s i (Int.ofNat (s.xs.length - 1)).toNat) i (Int.ofNat (s.xs.length - 1)).toNat).fst.xs.length - 1)).c)])) [some (AO.own (Md.pile (popS (downS (swapS s i (Int.ofNat (s.xs.length - 1)).toNat) i (Int.ofNat (s.xs.length - 1)).toNat).fst)) (pH (popS (downS (swapS s i (Int.ofNat (s.xs.length - 1)).toNat) i (Int.ofNat (s.xs.length - 1)).toNat).fst)))] 1100 (((Cnd.p (VW [AV.ptr 0 0] [AV.ptr 0 0])).a ((Cnd.p (OW (AO.own (Md.pile s) (pH s)) (AO.own (Md.pile s) (pH s)))).a Cnd.t)).a (((Cnd.p (Wk (AV.v (Value.int IntKind.i64 (IntKind.i64.wrap (Int.ofNat s.xs.length - Int.ofNat 1)))) (AV.v (Value.int IntKind.i64 (Int.ofNat (s.xs.length - 1)))))).a Cnd.t).a (((Cnd.p (Int.ofNat 0 ≤ Int.ofNat i ∧ i < s.xs.length ∧ Int.ofNat 0 ≤ Int.ofNat (s.xs.length - 1) ∧ (Int.ofNat (s.xs.length - 1)).toNat < s.xs.length ∧ MI s.m s.ck)).a ((Cnd.p (VW [AV.ptr 0 0, AV.v (Value.int IntKind.i64 (Int.ofNat i)), AV.v (Value.int IntKind.i64 (Int.ofNat (s.xs.length - 1)))] [AV.ptr 0 0, AV.v (Value.int IntKind.i64 (Int.ofNat i)), AV.v (Value.int IntKind.i64 (Int.ofNat (s.xs.length - 1)))])).a ((Cnd.p (OW (AO.own (Md.pile s) (pH s)) (AO.own (Md.pile s) (pH s)))).a Cnd.t))).a (((Cnd.p (53 = 53)).a ((Cnd.p (Int.ofNat 0 ≤ Int.ofNat (s.xs.length - 1) ∧ Int.ofNat 0 ≤ Int.ofNat i ∧ (Int.ofNat (s.xs.length - 1)).toNat ≤ ((s.xs.set i (at' s (Int.ofNat (s.xs.length - 1)).toNat)).set (Int.ofNat (s.xs.length - 1)).toNat (at' s i)).length ∧ i ≤ ((s.xs.set i (at' s (Int.ofNat (s.xs.length - 1)).toNat)).set (Int.ofNat (s.xs.length - 1)).toNat (at' s i)).length ∧ PI (swapS s i (Int.ofNat (s.xs.length - 1)).toNat))).a ((Cnd.p (VW [AV.iface 53 (AV.ptr 0 0), AV.v (Value.int IntKind.i64 (Int.ofNat i)), AV.v (Value.int IntKind.i64 (Int.ofNat (s.xs.length - 1)))] [AV.iface 53 (AV.ptr 0 0), AV.v (Value.int IntKind.i64 (Int.ofNat i)), AV.v (Value.int IntKind.i64 (Int.ofNat (s.xs.length - 1)))])).a ((Cnd.p (OW (AO.own (Md.pile (swapS s i (Int.ofNat (s.xs.length - 1)).toNat)) (pH (swapS s i (Int.ofNat (s.xs.length - 1)).toNat))) (AO.own (Md.pile (swapS s i (Int.ofNat (s.xs.length - 1)).toNat)) (pH (swapS s i (Int.ofNat (s.xs.length - 1)).toNat))))).a Cnd.t)))).a (((Cnd.p (0 < (downS (swapS s i (Int.ofNat (s.xs.length - 1)).toNat) i (Int.ofNat (s.xs.length - 1)).toNat).fst.xs.length ∧ (downS (swapS s i (Int.ofNat (s.xs.length - 1)).toNat) i (Int.ofNat (s.xs.length - 1)).toNat).fst.xs.length ≤ 9223372036854775807)).a ((Cnd.p (VW [AV.ptr 0 0] [AV.ptr 0 0])).a ((Cnd.p (OW (AO.own (Md.pile (downS (swapS s i (Int.ofNat (s.xs.length - 1)).toNat) i (Int.ofNat (s.xs.length - 1)).toNat).fst) (pH (downS (swapS s i (Int.ofNat (s.xs.length - 1)).toNat) i (Int.ofNat (s.xs.length - 1)).toNat).fst)) (AO.own (Md.pile (downS (swapS s i (Int.ofNat (s.xs.length - 1)).toNat) i (Int.ofNat (s.xs.length - 1)).toNat).fst) (pH (downS (swapS s i (Int.ofNat (s.xs.length - 1)).toNat) i (Int.ofNat (s.xs.length - 1)).toNat).fst)))).a Cnd.t))).a Cnd.t))))))) (VT.leaf (AV.iface 27 (AV.agg [AV.v (Value.int IntKind.i64 (at' s (s.xs.length - 1)).a), AV.v (Value.int IntKind.i64 (at' s (s.xs.length - 1)).b), AV.v (Value.int IntKind.i64 (at' s (s.xs.length - 1)).c)])) [some (AO.own (Md.pile (popS s)) (pH (popS s)))] 1100 (((Cnd.p (VW [AV.ptr 0 0] [AV.ptr 0 0])).a ((Cnd.p (OW (AO.own (Md.pile s) (pH s)) (AO.own (Md.pile s) (pH s)))).a Cnd.t)).a (((Cnd.p (Wk (AV.v (Value.int IntKind.i64 (IntKind.i64.wrap (Int.ofNat s.xs.length - Int.ofNat 1)))) (AV.v (Value.int IntKind.i64 (Int.ofNat (s.xs.length - 1)))))).a Cnd.t).a (((Cnd.p (0 < s.xs.length ∧ s.xs.length ≤ 9223372036854775807)).a ((Cnd.p (VW [AV.ptr 0 0] [AV.ptr 0 0])).a ((Cnd.p (OW (AO.own (Md.pile s) (pH s)) (AO.own (Md.pile s) (pH s)))).a Cnd.t))).a Cnd.t)))) := by kernel_rfl
abbrev fNew : Nat := 7
abbrev fLPut : Nat := 8
abbrev fLPop : Nat := 9
abbrev fLLen : Nat := 11
abbrev fLTake : Nat := 13
abbrev fLPeek : Nat := 17
theorem oNew_eq (F : HP) : oRun [] noHints [] fNew [] [] [1100, 1101] F = VT.leaf (AV.ptr 1101 0) [some (AO.map [] 0), some (AO.cells [AV.v (Value.slice none 0 0), AV.map 1100] 100)] 1102 Cnd.t := by kernel_rfl
theorem oLLen_eq (s : Ps) (F : HP) : oRun [] noHints [] fLLen [.ptr 0 0] (pL s) [0, 1001, 1002] F = VT.leaf (AV.v (Value.int IntKind.i64 ↑s.xs.length)) [some (AO.cells [AV.slice 1001 0 s.xs.length 3 (Cp.lo (s.xs.length + s.g.length)), AV.map 1002] 100), some (AO.cells (rowV enc (s.xs ++ s.g)) 54), some (AO.map (mE iv s.m) s.ck)] 1100 (((Cnd.p (true = true)).a Cnd.t).a Cnd.t) := by kernel_rfl
theorem oLLen0_eq (F : HP) : oRun [] noHints [] fLLen [.ptr 0 0] pL0 [0, 1002] F = VT.leaf (AV.v (Value.int IntKind.i64 (Int.ofNat 0))) [some (AO.cells [AV.v (Value.slice none 0 0), AV.map 1002] 100), some (AO.map [] 0)] 1100 (((Cnd.p (true = true)).a Cnd.t).a Cnd.t) := by kernel_rfl
def hpushS (s : Ps) (x : It) : Ps := upS (pushS s x) s.xs.length
def hpopD (s : Ps) : Ps := (downS (swapS s 0 (s.xs.length - 1)) 0 (s.xs.length - 1)).1
def hpopS (s : Ps) : Ps := popS (hpopD s)
def hpopV (s : Ps) : It := at' (hpopD s) ((hpopD s).xs.length - 1)
def emptyS : Ps := ⟨[], [], [], 0⟩
/-- heap.Push where the pile lies open. -/
def openP (i r m : Nat) : Nat → Nat := fun k => match Nat.beq k 0 with
  | true => i
  | false => match Nat.beq k 1001 with
    | true => r
    | false => m
def cHPushO (s : Ps) : List AV → Option (AP AV) := fun args => match args with
  | [.iface t (.ptr i 0), .iface t' (.agg [.v (.int .i64 a), .v (.int .i64 b), .v (.int .i64 c)])] => some (.need (t = 53 ∧ t' = 27 ∧ Room s ∧ PI s) (.read i fun o => match o with
    | .cells [.slice r _ _ _ _, .map m] _ => useC (openP i r m) [hI, itF ⟨a, b, c⟩] args (pL s) (.leaf .ret [.tuple []] [(0, pO (hpushS s ⟨a, b, c⟩))])
    | _ => .fail "push"))
  | _ => none
def cHPushO0 : List AV → Option (AP AV) := fun args => match args with
  | [.iface t (.ptr i 0), .iface t' (.agg [.v (.int .i64 a), .v (.int .i64 b), .v (.int .i64 c)])] => some (.need (t = 53 ∧ t' = 27) (.read i fun o => match o with
    | .cells [_, .map m] _ => useC (openP i m m) [hI, itF ⟨a, b, c⟩] args pL0 (.leaf .ret [.tuple []] [(0, pO (pushS emptyS ⟨a, b, c⟩))])
    | _ => .fail "push"))
  | _ => none
def cHPopO (s : Ps) : List AV → Option (AP AV) := fun args => match args with
  | [.iface t (.ptr i 0)] => some (.need (t = 53 ∧ PI s ∧ 0 < s.xs.length) (.read i fun o => match o with
    | .cells [.slice r _ _ _ _, .map m] _ => useC (openP i r m) [hI] args (pL s) (.leaf .ret [itF (hpopV s)] [(0, pO (hpopS s))])
    | _ => .fail "pop"))
  | _ => none
def lookD (k : Int) (m : IMap Int) : Int := (mlook k m).getD 0
def hPut (s : Ps) (x : It) : ClaimT := hintL [(fLPut, 1, 7, hv (.tuple [iv (lookD x.b s.m), .v (.bool (mlook x.b s.m).isSome)]))]
def hPut0 : ClaimT := hintL [(fLPut, 1, 7, hv (.tuple [iv 0, .lit false]))]
theorem oLPut_eq (s : Ps) (x : It) (F : HP) : oRun [(fHPush, cHPushO s)] (hPut s x) [] fLPut [.ptr 0 0, itA x] (pL s) [0, 1001, 1002] F = VT.ite (mlook x.b s.m).isSome (VT.leaf (AV.v (Value.bool false)) [some (AO.cells [AV.slice 1001 0 s.xs.length 3 (Cp.lo (s.xs.length + s.g.length)), AV.map 1002] 100), some (AO.cells (rowV enc (s.xs ++ s.g)) 54), some (AO.map (mE iv s.m) s.ck)] 1101 (((Cnd.p (true = true)).a Cnd.t).a (((Cnd.p (true = true)).a ((Cnd.p (AV.v (Value.int IntKind.i64 x.b) = AV.v (Value.int IntKind.i64 x.b))).a Cnd.t)).a (((Cnd.p (findKey Try.prog (env0 [(18, cHPushO s)] (hPut s x) [] F) 3 (AV.v (Value.int IntKind.i64 x.b)) (mE iv s.m) 0 = AP.ret (findS (AV.v (Value.int IntKind.i64 x.b)) (mE iv s.m) 0))).a ((Cnd.p (foundX (findS (AV.v (Value.int IntKind.i64 x.b)) (mE iv s.m) 0) (Value.int IntKind.i64 (Int.ofNat 0)) = AV.v (Value.int IntKind.i64 (foundX (findS (AV.v (Value.int IntKind.i64 x.b)) (mE iv s.m) 0) (Value.int IntKind.i64 (Int.ofNat 0))).intOf))).a ((Cnd.p (Wk (AV.tuple [AV.v (Value.int IntKind.i64 (foundX (findS (AV.v (Value.int IntKind.i64 x.b)) (mE iv s.m) 0) (Value.int IntKind.i64 (Int.ofNat 0))).intOf), AV.v (Value.bool (findS (AV.v (Value.int IntKind.i64 x.b)) (mE iv s.m) 0).isSome)]) (AV.tuple [AV.v (Value.int IntKind.i64 (lookD x.b s.m)), AV.v (Value.bool (mlook x.b s.m).isSome)]))).a Cnd.t))).a Cnd.t)))) (VT.leaf (AV.v (Value.bool true)) [some (AO.own (Md.pile (hpushS s (It.mk x.a x.b x.c))) (pH (hpushS s (It.mk x.a x.b x.c)))), none, none] 1101 (((Cnd.p (true = true)).a Cnd.t).a (((Cnd.p (true = true)).a ((Cnd.p (AV.v (Value.int IntKind.i64 x.b) = AV.v (Value.int IntKind.i64 x.b))).a Cnd.t)).a (((Cnd.p (findKey Try.prog (env0 [(18, cHPushO s)] (hPut s x) [] F) 3 (AV.v (Value.int IntKind.i64 x.b)) (mE iv s.m) 0 = AP.ret (findS (AV.v (Value.int IntKind.i64 x.b)) (mE iv s.m) 0))).a ((Cnd.p (foundX (findS (AV.v (Value.int IntKind.i64 x.b)) (mE iv s.m) 0) (Value.int IntKind.i64 (Int.ofNat 0)) = AV.v (Value.int IntKind.i64 (foundX (findS (AV.v (Value.int IntKind.i64 x.b)) (mE iv s.m) 0) (Value.int IntKind.i64 (Int.ofNat 0))).intOf))).a ((Cnd.p (Wk (AV.tuple [AV.v (Value.int IntKind.i64 (foundX (findS (AV.v (Value.int IntKind.i64 x.b)) (mE iv s.m) 0) (Value.int IntKind.i64 (Int.ofNat 0))).intOf), AV.v (Value.bool (findS (AV.v (Value.int IntKind.i64 x.b)) (mE iv s.m) 0).isSome)]) (AV.tuple [AV.v (Value.int IntKind.i64 (lookD x.b s.m)), AV.v (Value.bool (mlook x.b s.m).isSome)]))).a Cnd.t))).a (((Cnd.p (true = true)).a ((Cnd.p ([AV.v (Value.int IntKind.i64 x.a), AV.v (Value.int IntKind.i64 x.b), AV.v (Value.int IntKind.i64 x.c)] = [AV.v (Value.int IntKind.i64 x.a), AV.v (Value.int IntKind.i64 x.b), AV.v (Value.int IntKind.i64 x.c)])).a Cnd.t)).a (((Cnd.p (53 = 53 ∧ 27 = 27 ∧ Room s ∧ PI s)).a ((Cnd.p (VW [AV.iface 53 (AV.ptr 0 0), AV.iface 27 (AV.agg [AV.v (Value.int IntKind.i64 x.a), AV.v (Value.int IntKind.i64 x.b), AV.v (Value.int IntKind.i64 x.c)])] [AV.iface 53 (AV.ptr 0 0), AV.iface 27 (AV.agg [AV.v (Value.int IntKind.i64 x.a), AV.v (Value.int IntKind.i64 x.b), AV.v (Value.int IntKind.i64 x.c)])])).a ((Cnd.p (OW (AO.cells [AV.slice 1001 0 s.xs.length 3 (Cp.lo (s.xs.length + s.g.length)), AV.map 1002] 100) (AO.cells [AV.slice 1001 0 s.xs.length 3 (Cp.lo (s.xs.length + s.g.length)), AV.map 1002] 100))).a ((Cnd.p (OW (AO.cells (rowV enc (s.xs ++ s.g)) 54) (AO.cells (AV.rens (openP 0 1001 1002) (rowV enc (s.xs ++ s.g))) 54))).a ((Cnd.p (OW (AO.map (mE iv s.m) s.ck) (AO.map (renE (openP 0 1001 1002) (mE iv s.m)) s.ck))).a Cnd.t))))).a Cnd.t)))))) := by kernel_rfl
theorem oLPut0_eq (x : It) (F : HP) : oRun [(fHPush, cHPushO0)] hPut0 [] fLPut [.ptr 0 0, itA x] pL0 [0, 1001, 1002] F = VT.leaf (AV.v (Value.bool true)) [some (AO.own (Md.pile (pushS emptyS (It.mk x.a x.b x.c))) (pH (pushS emptyS (It.mk x.a x.b x.c)))), none, none] 1101 (((Cnd.p (true = true)).a Cnd.t).a (((Cnd.p (true = true)).a ((Cnd.p (AV.v (Value.int IntKind.i64 x.b) = AV.v (Value.int IntKind.i64 x.b))).a Cnd.t)).a (((Cnd.p (findKey Try.prog (env0 [(18, cHPushO0)] hPut0 [] F) 3 (AV.v (Value.int IntKind.i64 x.b)) [] 0 = AP.ret none)).a ((Cnd.p (AV.v (Value.int IntKind.i64 (Int.ofNat 0)) = AV.v (Value.int IntKind.i64 (Int.ofNat 0)))).a ((Cnd.p (Wk (AV.tuple [AV.v (Value.int IntKind.i64 (Int.ofNat 0)), AV.v (Value.bool false)]) (AV.tuple [AV.v (Value.int IntKind.i64 (Int.ofNat 0)), AV.lit false]))).a Cnd.t))).a (((Cnd.p (true = true)).a ((Cnd.p ([AV.v (Value.int IntKind.i64 x.a), AV.v (Value.int IntKind.i64 x.b), AV.v (Value.int IntKind.i64 x.c)] = [AV.v (Value.int IntKind.i64 x.a), AV.v (Value.int IntKind.i64 x.b), AV.v (Value.int IntKind.i64 x.c)])).a Cnd.t)).a (((Cnd.p (53 = 53 ∧ 27 = 27)).a ((Cnd.p (VW [AV.iface 53 (AV.ptr 0 0), AV.iface 27 (AV.agg [AV.v (Value.int IntKind.i64 x.a), AV.v (Value.int IntKind.i64 x.b), AV.v (Value.int IntKind.i64 x.c)])] [AV.iface 53 (AV.ptr 0 0), AV.iface 27 (AV.agg [AV.v (Value.int IntKind.i64 x.a), AV.v (Value.int IntKind.i64 x.b), AV.v (Value.int IntKind.i64 x.c)])])).a ((Cnd.p (OW (AO.cells [AV.v (Value.slice none 0 0), AV.map 1002] 100) (AO.cells [AV.v (Value.slice none 0 0), AV.map 1002] 100))).a ((Cnd.p (OW (AO.map [] 0) (AO.map [] 0))).a Cnd.t)))).a Cnd.t))))) := by kernel_rfl
theorem oLPop_eq (s : Ps) (F : HP) : oRun [(fHPop, cHPopO s)] noHints [] fLPop [.ptr 0 0] (pL s) [0, 1001, 1002] F = VT.ite (↑s.xs.length == Int.ofNat 0) (VT.leaf (AV.tuple [AV.agg [AV.v (Value.int IntKind.i64 (Int.ofNat 0)), AV.v (Value.int IntKind.i64 (Int.ofNat 0)), AV.v (Value.int IntKind.i64 (Int.ofNat 0))], AV.v (Value.bool false)]) [some (AO.cells [AV.slice 1001 0 s.xs.length 3 (Cp.lo (s.xs.length + s.g.length)), AV.map 1002] 100), some (AO.cells (rowV enc (s.xs ++ s.g)) 54), some (AO.map (mE iv s.m) s.ck)] 1101 (((Cnd.p (true = true)).a Cnd.t).a (((Cnd.p (true = true)).a Cnd.t).a ((Cnd.p (true = true)).a ((Cnd.p ([AV.v (Value.int IntKind.i64 (Int.ofNat 0)), AV.v (Value.int IntKind.i64 (Int.ofNat 0)), AV.v (Value.int IntKind.i64 (Int.ofNat 0))] = [AV.v (Value.int IntKind.i64 (Int.ofNat 0)), AV.v (Value.int IntKind.i64 (Int.ofNat 0)), AV.v (Value.int IntKind.i64 (Int.ofNat 0))])).a Cnd.t))))) (VT.leaf (AV.tuple [AV.agg [AV.v (Value.int IntKind.i64 (hpopV s).a), AV.v (Value.int IntKind.i64 (hpopV s).b), AV.v (Value.int IntKind.i64 (hpopV s).c)], AV.v (Value.bool true)]) [some (AO.own (Md.pile (hpopS s)) (pH (hpopS s))), none, none] 1102 (((Cnd.p (true = true)).a Cnd.t).a (((Cnd.p (53 = 53 ∧ PI s ∧ 0 < s.xs.length)).a ((Cnd.p (VW [AV.iface 53 (AV.ptr 0 0)] [AV.iface 53 (AV.ptr 0 0)])).a ((Cnd.p (OW (AO.cells [AV.slice 1001 0 s.xs.length 3 (Cp.lo (s.xs.length + s.g.length)), AV.map 1002] 100) (AO.cells [AV.slice 1001 0 s.xs.length 3 (Cp.lo (s.xs.length + s.g.length)), AV.map 1002] 100))).a ((Cnd.p (OW (AO.cells (rowV enc (s.xs ++ s.g)) 54) (AO.cells (AV.rens (openP 0 1001 1002) (rowV enc (s.xs ++ s.g))) 54))).a ((Cnd.p (OW (AO.map (mE iv s.m) s.ck) (AO.map (renE (openP 0 1001 1002) (mE iv s.m)) s.ck))).a Cnd.t))))).a (((Cnd.p (true = true)).a Cnd.t).a (((Cnd.p (true = true)).a ((Cnd.p ([AV.v (Value.int IntKind.i64 (hpopV s).a), AV.v (Value.int IntKind.i64 (hpopV s).b), AV.v (Value.int IntKind.i64 (hpopV s).c)] = [AV.v (Value.int IntKind.i64 (hpopV s).a), AV.v (Value.int IntKind.i64 (hpopV s).b), AV.v (Value.int IntKind.i64 (hpopV s).c)])).a Cnd.t)).a (((Cnd.p (true = true)).a Cnd.t).a ((Cnd.p (true = true)).a ((Cnd.p ([AV.v (Value.int IntKind.i64 (hpopV s).a), AV.v (Value.int IntKind.i64 (hpopV s).b), AV.v (Value.int IntKind.i64 (hpopV s).c)] = [AV.v (Value.int IntKind.i64 (hpopV s).a), AV.v (Value.int IntKind.i64 (hpopV s).b), AV.v (Value.int IntKind.i64 (hpopV s).c)])).a Cnd.t)))))))) := by kernel_rfl
theorem oLPop0_eq (F : HP) : oRun [] noHints [] fLPop [.ptr 0 0] pL0 [0, 1002] F = VT.ite true (VT.leaf (AV.tuple [AV.agg [AV.v (Value.int IntKind.i64 (Int.ofNat 0)), AV.v (Value.int IntKind.i64 (Int.ofNat 0)), AV.v (Value.int IntKind.i64 (Int.ofNat 0))], AV.v (Value.bool false)]) [some (AO.cells [AV.v (Value.slice none 0 0), AV.map 1002] 100), some (AO.map [] 0)] 1101 (((Cnd.p (true = true)).a Cnd.t).a (((Cnd.p (true = true)).a Cnd.t).a ((Cnd.p (true = true)).a ((Cnd.p ([AV.v (Value.int IntKind.i64 (Int.ofNat 0)), AV.v (Value.int IntKind.i64 (Int.ofNat 0)), AV.v (Value.int IntKind.i64 (Int.ofNat 0))] = [AV.v (Value.int IntKind.i64 (Int.ofNat 0)), AV.v (Value.int IntKind.i64 (Int.ofNat 0)), AV.v (Value.int IntKind.i64 (Int.ofNat 0))])).a Cnd.t))))) (VT.bad "a number below nought") := by kernel_rfl
end
end Go.Proofs.Ytcpijmlaglcblaa.Rk

/- container/heap on a pile; a Line's methods: contracts. -/
set_option linter.unusedVariables false
set_option linter.unusedSimpArgs false
set_option maxRecDepth 100000
namespace Go.Proofs.Ytcpijmlaglcblaa.Rk
open Go Go.RowKit Go.Proofs.Ytcpijmlaglcblaa.Eng
theorem upS_keeps (s : Ps) (j : Nat) (h : PI s) : PI (upS s j) ∧ (upS s j).xs.length = s.xs.length := by
  induction j using Nat.strongRecOn generalizing s with
  | ind j ih =>
    rw [upS]
    split
    · exact ⟨h, rfl⟩
    · split
      · have := ih ((j - 1) / 2) (by omega) _ (h.swap ((j - 1) / 2) j)
        exact ⟨this.1, this.2.trans (swap_len _ _ _)⟩
      · exact ⟨h, rfl⟩
theorem downS_keeps (n : Nat) : ∀ (d : Nat) (s : Ps) (i : Nat), n - i ≤ d → PI s → PI (downS s i n).1 ∧ (downS s i n).1.xs.length = s.xs.length := by
  intro d
  induction d with
  | zero =>
    intro s i hd h
    rw [downS, dif_pos (by omega)]
    exact ⟨h, rfl⟩
  | succ d ih =>
    intro s i hd h
    rw [downS]
    split
    · exact ⟨h, rfl⟩
    · split
      · have hj := downJ_gt s i n
        have := ih (swapS s i (downJ s i n)) (downJ s i n) (by omega) (h.swap i (downJ s i n))
        exact ⟨this.1, this.2.trans (swap_len _ _ _)⟩
      · exact ⟨h, rfl⟩
theorem fits_one {ks : List Nat} {os : List (Option AO)} {u v : AV} {o : AO} (hv : VW [u] (AV.rens (sg []) [v])) (ho : ∃ o1, getK ks os 0 = some o1 ∧ OW o1 (o.ren (sg []))) : Fits ks [u] os [v] [(0, o)] := (fits_own hv ho).fits rfl
theorem upL_ok (F : HP) : L1OK Try.prog F (loopOf fUp) upL := by
  intro st W0 N h w tmps tmps' ax a h' n n' lg lg' c Q he hc r ha hf hK
  unfold upL at he
  split at he
  · rename_i t i j rest
    obtain ⟨o, ho, he⟩ := run_read he
    split at he
    · rename_i s hh
      obtain ⟨c1, he2, rfl⟩ := run_need he
      obtain ⟨⟨h1, h2, h3⟩, hc2⟩ := (Cnd.and_iff _ _).1 hc
      have hcl : ClosedC (upA j.toNat) [(0, pO s)] (anys 23) [(0, pO (upS s j.toNat))] := ⟨rfl, rfl, ⟨rfl, trivial, cls_anys _ _⟩, (fun x hx => by simp only [List.mem_singleton] at hx; subst hx; trivial), cls_anys _ _, fun x hx => by simp only [List.mem_singleton] at hx; subst hx; trivial⟩
      exact useG_loop oldDef (up_loop s j.toNat h3 h2) hcl he2 hc2 r ha hf hK
    · exact (inv_fail he).elim
  · exact (inv_fail he).elim
theorem downL_ok (F : HP) : L1OK Try.prog F (loopOf fDown) downL := by
  intro st W0 N h w tmps tmps' ax a h' n n' lg lg' c Q he hc r ha hf hK
  unfold downL at he
  split at he
  · rename_i t p i0 m x3 x4 x5 x6 i rest
    obtain ⟨o, ho, he⟩ := run_read he
    split at he
    · rename_i s hh
      obtain ⟨c1, he2, rfl⟩ := run_need he
      obtain ⟨⟨h1, h2, h3, h4, h5, h6⟩, hc2⟩ := (Cnd.and_iff _ _).1 hc
      have hcl : ClosedC (downA i0.toNat m.toNat i.toNat) [(0, pO s)] (downA i0.toNat m.toNat (downS s i.toNat m.toNat).2) [(0, pO (downS s i.toNat m.toNat).1)] := ⟨rfl, rfl, ⟨rfl, trivial, trivial, trivial, trivial, trivial, trivial, trivial, cls_anys _ _⟩, (fun x hx => by simp only [List.mem_singleton] at hx; subst hx; trivial), ⟨rfl, trivial, trivial, trivial, trivial, trivial, trivial, trivial, cls_anys _ _⟩, fun x hx => by simp only [List.mem_singleton] at hx; subst hx; trivial⟩
      exact useG_loop oldDef (down_loop s i0.toNat m.toNat i.toNat h6 h4 h5) hcl he2 hc2 r ha hf hK
    · exact (inv_fail he).elim
  · exact (inv_fail he).elim
theorem up_tri (s : Ps) (j : Nat) (hP : PI s) (hj : j < s.xs.length) : Tri Try.prog default fUp [hI, iv (Int.ofNat j)] [(0, pO s)] (.tuple []) [(0, pO (upS s j))] := by
  refine tri_run (con := []) (hints := noHints) (lc := [(fUp, 0, loopOf fUp, upL)]) [0] rfl noC (fun x hx F => by simp only [List.mem_singleton] at hx; subst hx; exact upL_ok F) fun F => ?_
  rw [oUpF_eq]
  refine ⟨?_, fits_one (VW.refl _) ⟨_, rfl, OW.refl _⟩⟩
  refine ⟨rfl, ⟨Int.natCast_nonneg _, hj, hP⟩, VW.cons (Wk.refl _) (VW.cons (Wk.refl _) (vw_anys (n := 21) rfl)), OW.refl _, trivial⟩
theorem down_tri (s : Ps) (i n : Nat) (hP : PI s) (hn : n ≤ s.xs.length) (hi : i ≤ s.xs.length) : Tri Try.prog default fDown [hI, iv (Int.ofNat i), iv (Int.ofNat n)] [(0, pO s)] (.v (.bool (decide (i < (downS s i n).2)))) [(0, pO (downS s i n).1)] := by
  refine tri_run (con := []) (hints := noHints) (lc := [(fDown, 2, loopOf fDown, downL)]) [0] rfl noC (fun x hx F => by simp only [List.mem_singleton] at hx; subst hx; exact downL_ok F) fun F => ?_
  rw [oDownF_eq]
  have e : decide (Int.ofNat (downS s i n).snd > Int.ofNat i) = decide (i < (downS s i n).2) := by
    simp only [Int.ofNat_eq_natCast, gt_iff_lt, Int.ofNat_lt]
  refine ⟨?_, fits_one (by rw [e]; exact VW.refl _) ⟨_, rfl, OW.refl _⟩⟩
  refine ⟨rfl, ⟨Int.natCast_nonneg _, Int.natCast_nonneg _, Int.natCast_nonneg _, hn, hi, hP⟩, VW.cons (Wk.refl _) (VW.cons (Wk.refl _) (VW.cons (Wk.refl _) (VW.cons (Wk.any _) (VW.cons (Wk.any _) (VW.cons (Wk.any _) (VW.cons (Wk.any _) (VW.cons (Wk.refl _) (vw_anys (n := 40) rfl)))))))), OW.refl _, trivial⟩
theorem cUp_ok (F : HP) : C1OK Try.prog F fUp cUp := by
  intro st W0 N h w args vargs v h' n n' lg lg' c p hp he hc r ha hf
  unfold cUp at hp
  split at hp
  · rename_i t i j
    cases hp
    obtain ⟨c0, he0, rfl⟩ := run_need he
    obtain ⟨ht, hc0⟩ := (Cnd.and_iff _ _).1 hc
    have ht' : t = 53 := ht
    subst ht'
    obtain ⟨m, lg1, he1⟩ := ownC_run he0
    split at he1
    · rename_i s
      obtain ⟨c1, he2, rfl⟩ := run_need he1
      obtain ⟨⟨h1, h2, h3⟩, hc2⟩ := (Cnd.and_iff _ _).1 hc0
      obtain ⟨j, rfl⟩ := Int.eq_ofNat_of_zero_le h1
      exact onPile_ok (up_tri s j h3 h2) ⟨rfl, trivial, trivial⟩ ⟨trivial, trivial⟩ trivial he2 hc2 r ha hf
    · exact (inv_fail he1).elim
  · cases hp
theorem cDown_ok (F : HP) : C1OK Try.prog F fDown cDown := by
  intro st W0 N h w args vargs v h' n n' lg lg' c p hp he hc r ha hf
  unfold cDown at hp
  split at hp
  · rename_i t q i m
    cases hp
    obtain ⟨c0, he0, rfl⟩ := run_need he
    obtain ⟨ht, hc0⟩ := (Cnd.and_iff _ _).1 hc
    have ht' : t = 53 := ht
    subst ht'
    obtain ⟨md, lg1, he1⟩ := ownC_run he0
    split at he1
    · rename_i s
      obtain ⟨c1, he2, rfl⟩ := run_need he1
      obtain ⟨⟨h1, h2, h3, h4, h5⟩, hc2⟩ := (Cnd.and_iff _ _).1 hc0
      obtain ⟨m, rfl⟩ := Int.eq_ofNat_of_zero_le h1
      obtain ⟨i, rfl⟩ := Int.eq_ofNat_of_zero_le h2
      exact onPile_ok (down_tri s i m h5 h3 h4) ⟨rfl, trivial, trivial, trivial⟩ ⟨trivial, trivial⟩ trivial he2 hc2 r ha hf
    · exact (inv_fail he1).elim
  · cases hp
theorem conH_ok : ∀ x ∈ conH, ∀ F, C1OK Try.prog F x.1 x.2 := by
  intro x hx F
  rcases List.mem_cons.1 hx with rfl | hx
  · exact cUp_ok F
  rcases List.mem_cons.1 hx with rfl | hx
  · exact cDown_ok F
  exact conP_ok x hx F
theorem push_len (s : Ps) (x : It) : (pushS s x).xs.length = s.xs.length + 1 := by simp [pushS]
theorem PI.push {s : Ps} (h : PI s) (hR : Room s) (x : It) : PI (pushS s x) := ⟨h.m.mset _ _, by rw [push_len]; exact hR⟩
theorem hpush_tri (s : Ps) (x : It) (hP : PI s) (hR : Room s) : Tri Try.prog default fHPush [hI, itF x] [(0, pO s)] (.tuple []) [(0, pO (hpushS s x))] := by
  refine tri_run (con := conH) (hints := hintL [(fHPush, 1, 3, hv (iv (Int.ofNat s.xs.length)))]) (lc := []) [0] rfl conH_ok noL fun F => ?_
  rw [oHPush_eq]
  have hl : (s.xs ++ [x]).length = s.xs.length + 1 := by simp
  have hb := hP.big
  have hw : IntKind.i64.wrap (Int.ofNat (s.xs ++ [x]).length - Int.ofNat 1) = Int.ofNat s.xs.length := by
    rw [hl, IntWalk.i64_in _ (by simp only [Int.ofNat_eq_natCast]; omega)]; simp only [Int.ofNat_eq_natCast]; omega
  refine ⟨?_, fits_one (VW.refl _) ⟨_, rfl, OW.refl _⟩⟩
  refine ⟨⟨rfl, hR, VW.refl _, OW.refl _, trivial⟩, ⟨VW.refl _, OW.refl _, trivial⟩, ⟨wk_int hw, trivial⟩, ⟨rfl, ⟨Int.natCast_nonneg _, ?_, hP.push hR x⟩, VW.refl _, OW.refl _, trivial⟩, trivial⟩
  show s.xs.length < (s.xs ++ [x]).length
  omega
theorem upS_zero (s : Ps) : upS s 0 = s := by rw [upS, dif_pos rfl]
theorem hpush0_tri (x : It) : Tri Try.prog default fHPush [hI, itF x] [(0, pO0)] (.tuple []) [(0, pO (pushS emptyS x))] := by
  refine tri_run (con := conH) (hints := hintL [(fHPush, 1, 3, hv (iv (Int.ofNat 0)))]) (lc := []) [0] rfl conH_ok noL fun F => ?_
  rw [oHPush0_eq]
  have hP : PI (pushS emptyS x) := PI.push (s := emptyS) ⟨MI.nil, by show 0 * 24 ≤ _; omega⟩ (by show (0 + 1) * 24 ≤ _; omega) x
  refine ⟨?_, fits_one (VW.refl _) ⟨_, rfl, OW.of_eq ?_⟩⟩
  · simp only [Cnd.holds]
    and_intros
    all_goals first | exact trivial | exact VW.refl _ | exact OW.refl _ | exact Wk.refl _ | exact hP | rfl | decide
  · show pO (upS (pushS emptyS x) 0) = pO (pushS emptyS x)
    rw [upS_zero]
theorem hpop_tri (s : Ps) (hP : PI s) (h0 : 0 < s.xs.length) : Tri Try.prog default fHPop [hI] [(0, pO s)] (itF (hpopV s)) [(0, pO (hpopS s))] := by
  refine tri_run (con := conH) (hints := hintL [(fHPop, 1, 2, hv (iv (Int.ofNat (s.xs.length - 1))))]) (lc := []) [0] rfl conH_ok noL fun F => ?_
  rw [oHPop_eq]
  have hb := hP.big
  have hw : IntKind.i64.wrap (Int.ofNat s.xs.length - Int.ofNat 1) = Int.ofNat (s.xs.length - 1) := by
    rw [IntWalk.i64_in _ (by simp only [Int.ofNat_eq_natCast]; omega)]; simp only [Int.ofNat_eq_natCast]; omega
  have hsl := swap_len s 0 (s.xs.length - 1)
  obtain ⟨hd1, hd2⟩ := downS_keeps (s.xs.length - 1) _ (swapS s 0 (s.xs.length - 1)) 0 (Nat.le_refl _) (hP.swap 0 (s.xs.length - 1))
  refine ⟨?_, fits_one (VW.refl _) ⟨_, rfl, OW.refl _⟩⟩
  simp only [Cnd.holds]
  and_intros
  all_goals first
    | exact trivial
    | exact VW.refl _
    | exact OW.refl _
    | exact wk_int hw
    | exact hP.m
    | exact hP.swap _ _
    | rfl
    | exact h0
    | exact Int.natCast_nonneg _
    | (show s.xs.length - 1 < _; omega)
    | (show s.xs.length - 1 ≤ (swapS s 0 (s.xs.length - 1)).xs.length; omega)
    | exact Nat.zero_le _
    | (show 0 < (downS (swapS s 0 (s.xs.length - 1)) 0 (s.xs.length - 1)).1.xs.length; omega)
    | (show (downS (swapS s 0 (s.xs.length - 1)) 0 (s.xs.length - 1)).1.xs.length ≤ _; omega)
    | decide
end Go.Proofs.Ytcpijmlaglcblaa.Rk

/- A Line's methods: contracts, and as calls. -/
set_option linter.unusedVariables false
set_option linter.unusedSimpArgs false
set_option maxRecDepth 100000
namespace Go.Proofs.Ytcpijmlaglcblaa.Rk
open Go Go.RowKit Go.Proofs.Ytcpijmlaglcblaa.Eng
theorem shut_pile (s : Ps) {vs : List AV} (hc : AV.cls (fun i => Nat.blt i 1000) vs) : Goes vs (pL s) vs [(0, pO s)] := by
  have := Goes.shut (σ := Unit) (R := fun _ => True) (L := fun _ => pL s) (m := .pile s) (H0 := []) (vs := vs) () trivial rfl ⟨_, _, rfl, rfl⟩ (by
    have e : (fun i => Nat.blt i 1000 || (getO ([] : LH) i).isSome) = fun i => Nat.blt i 1000 := by funext i; simp [getO]
    rw [e]; exact hc) (fun x hx => by cases hx)
  rwa [List.append_nil] at this
theorem shut_pile0 {vs : List AV} (hc : AV.cls (fun i => Nat.blt i 1000) vs) : Goes vs pL0 vs [(0, pO0)] := by
  have := Goes.shut (σ := Unit) (R := fun _ => True) (L := fun _ => pL0) (m := .pile0) (H0 := []) (vs := vs) () trivial rfl ⟨_, _, rfl, rfl⟩ (by
    have e : (fun i => Nat.blt i 1000 || (getO ([] : LH) i).isSome) = fun i => Nat.blt i 1000 := by funext i; simp [getO]
    rw [e]; exact hc) (fun x hx => by cases hx)
  rwa [List.append_nil] at this
theorem clE_mE (K : Nat → Bool) : ∀ m : IMap Int, clE K (mE iv m)
  | [] => trivial
  | e :: m => ⟨trivial, trivial, clE_mE K m⟩
theorem closedL {s : Ps} {A : List AV} {v : AV} {o : AO} (ha : AV.cls (kH (pL s)) A) (hv : AV.cls (kR (pL s) [(0, o)]) [v]) (ho : o.cl (kR (pL s) [(0, o)])) : ClosedC A (pL s) [v] [(0, o)] := by
  refine ⟨rfl, rfl, ha, fun x hx => ?_, hv, fun x hx => by simp only [List.mem_singleton] at hx; subst hx; exact ho⟩
  simp only [pL, List.mem_cons, List.not_mem_nil, or_false] at hx
  rcases hx with rfl | rfl | rfl
  · exact ⟨rfl, rfl, trivial⟩
  · exact cls_rowV _ _
  · exact clE_mE _ _
theorem cHPushO_ok (s : Ps) (F : HP) : C1OK Try.prog F fHPush (cHPushO s) := by
  intro st W0 N h w args vargs v h' n n' lg lg' c p hp he hc r ha hf
  unfold cHPushO at hp
  split at hp
  · rename_i t i t' a b c
    cases hp
    obtain ⟨c0, he0, rfl⟩ := run_need he
    obtain ⟨⟨rfl, rfl, hR, hP⟩, hc0⟩ := (Cnd.and_iff _ _).1 hc
    obtain ⟨o, ho, he1⟩ := run_read he0
    split at he1
    · exact useC_ok oldDef (Tri.pre (shut_pile s (vs := [hI, itF ⟨a, b, c⟩]) ⟨rfl, ⟨trivial, trivial, trivial, trivial⟩, trivial⟩) (hpush_tri s ⟨a, b, c⟩ hP hR)) rfl (closedL (s := s) (A := [hI, itF ⟨a, b, c⟩]) (v := .tuple []) (o := pO (hpushS s ⟨a, b, c⟩)) ⟨rfl, ⟨trivial, trivial, trivial, trivial⟩, trivial⟩ ⟨trivial, trivial⟩ trivial) he1 hc0 r ha hf
    · exact (inv_fail he1).elim
  · cases hp
theorem cHPushO0_ok (F : HP) : C1OK Try.prog F fHPush cHPushO0 := by
  intro st W0 N h w args vargs v h' n n' lg lg' c p hp he hc r ha hf
  unfold cHPushO0 at hp
  split at hp
  · rename_i t i t' a b c
    cases hp
    obtain ⟨c0, he0, rfl⟩ := run_need he
    obtain ⟨⟨rfl, rfl⟩, hc0⟩ := (Cnd.and_iff _ _).1 hc
    obtain ⟨o, ho, he1⟩ := run_read he0
    split at he1
    · have hcl : ClosedC [hI, itF ⟨a, b, c⟩] pL0 [.tuple []] [(0, pO (pushS emptyS ⟨a, b, c⟩))] := by
        refine ⟨rfl, rfl, ⟨rfl, ⟨trivial, trivial, trivial, trivial⟩, trivial⟩, fun x hx => ?_, ⟨trivial, trivial⟩, fun x hx => by simp only [List.mem_singleton] at hx; subst hx; trivial⟩
        simp only [pL0, List.mem_cons, List.not_mem_nil, or_false] at hx
        rcases hx with rfl | rfl
        · exact ⟨trivial, rfl, trivial⟩
        · exact trivial
      exact useC_ok oldDef (Tri.pre (shut_pile0 (vs := [hI, itF ⟨a, b, c⟩]) ⟨rfl, ⟨trivial, trivial, trivial, trivial⟩, trivial⟩) (hpush0_tri ⟨a, b, c⟩)) rfl hcl he1 hc0 r ha hf
    · exact (inv_fail he1).elim
  · cases hp
theorem cHPopO_ok (s : Ps) (F : HP) : C1OK Try.prog F fHPop (cHPopO s) := by
  intro st W0 N h w args vargs v h' n n' lg lg' c p hp he hc r ha hf
  unfold cHPopO at hp
  split at hp
  · rename_i t i
    cases hp
    obtain ⟨c0, he0, rfl⟩ := run_need he
    obtain ⟨⟨rfl, hP, h0⟩, hc0⟩ := (Cnd.and_iff _ _).1 hc
    obtain ⟨o, ho, he1⟩ := run_read he0
    split at he1
    · exact useC_ok oldDef (Tri.pre (shut_pile s (vs := [hI]) ⟨rfl, trivial⟩) (hpop_tri s hP h0)) rfl (closedL (s := s) (A := [hI]) (v := itF (hpopV s)) (o := pO (hpopS s)) ⟨rfl, trivial⟩ ⟨⟨trivial, trivial, trivial, trivial⟩, trivial⟩ trivial) he1 hc0 r ha hf
    · exact (inv_fail he1).elim
  · cases hp
theorem one_ok {f : FuncId} {g : List AV → Option (AP AV)} (h : ∀ F, C1OK Try.prog F f g) : ∀ x ∈ [(f, g)], ∀ F, C1OK Try.prog F x.1 x.2 := fun x hx F => by simp only [List.mem_singleton] at hx; subst hx; exact h F
theorem new_tri : Tri Try.prog default fNew [] [] (.ptr 1000 0) [(1000, pO0)] := by
  refine tri_run (con := []) (hints := noHints) (lc := []) [1100, 1101] rfl noC noL fun F => ?_
  rw [oNew_eq]
  refine ⟨trivial, [.ptr 1000 0], renL 1000 pL0, [(1000, 1101), (1002, 1100)], rfl, fit_mk _ (by kernel_rfl) (by kernel_rfl) (VW.refl _) ⟨⟨_, rfl, OW.refl _⟩, ⟨_, rfl, OW.refl _⟩, trivial⟩, ?_⟩
  exact Goes.shutNew (σ := Unit) (R := fun _ => True) (L := fun _ => pL0) (m := .pile0) 1000 ⟨by decide, by decide⟩ () trivial rfl rfl ⟨_, _, rfl, rfl⟩ ⟨rfl, trivial⟩
theorem llen_tri (s : Ps) : Tri Try.prog default fLLen [.ptr 0 0] [(0, pO s)] (iv (Int.ofNat s.xs.length)) [(0, pO s)] := by
  refine open_pile (tri_run (con := []) (hints := noHints) (lc := []) [0, 1001, 1002] rfl noC noL fun F => ?_)
  rw [oLLen_eq]
  exact ⟨by simp only [Cnd.holds, and_self], fits_pile s [(1001, 1001), (1002, 1002)] (by kernel_rfl) (by kernel_rfl) (VW.refl _) ⟨trivial, trivial⟩ (objs_pile s rfl rfl rfl rfl rfl rfl)⟩
theorem llen0_tri : Tri Try.prog default fLLen [.ptr 0 0] [(0, pO0)] (iv (Int.ofNat 0)) [(0, pO0)] := by
  refine open_pile0 (tri_run (con := []) (hints := noHints) (lc := []) [0, 1002] rfl noC noL fun F => ?_)
  rw [oLLen0_eq]
  exact ⟨by simp only [Cnd.holds, and_self], fits_pile0 [(1002, 1002)] (by kernel_rfl) (by kernel_rfl) (VW.refl _) ⟨trivial, trivial⟩ ⟨⟨_, rfl, OW.refl _⟩, ⟨_, rfl, OW.refl _⟩, trivial⟩⟩
def isIn (k : Int) (s : Ps) : Bool := (mlook k s.m).isSome
def putS (s : Ps) (x : It) : Ps := match isIn x.b s with
  | true => s
  | false => hpushS s x
theorem look_eta (k : Int) (m : IMap Int) : foundX (findS (.v (.int .i64 k)) (mE iv m) 0) (.int .i64 (Int.ofNat 0)) = iv (lookD k m) := by
  rw [found_mE, lookD]
  cases mlook k m <;> rfl
theorem lput_tri (s : Ps) (x : It) (hP : PI s) (hR : Room s) : Tri Try.prog default fLPut [.ptr 0 0, itA x] [(0, pO s)] (.v (.bool (!isIn x.b s))) [(0, pO (putS s x))] := by
  refine open_pile (tri_run (con := [(fHPush, cHPushO s)]) (hints := hPut s x) (lc := []) [0, 1001, 1002] rfl (one_ok (cHPushO_ok s)) noL fun F => ?_)
  rw [oLPut_eq]
  have e1 := look_eta x.b s.m
  have e2 := found_isSome (ev := iv) x.b s.m
  have e3 : Wk (AV.tuple [AV.v (Value.int IntKind.i64 (foundX (findS (.v (.int .i64 x.b)) (mE iv s.m) 0) (.int .i64 (Int.ofNat 0))).intOf), AV.v (Value.bool (findS (AV.v (Value.int IntKind.i64 x.b)) (mE iv s.m) 0).isSome)]) (AV.tuple [AV.v (Value.int IntKind.i64 (lookD x.b s.m)), AV.v (Value.bool (mlook x.b s.m).isSome)]) := by
    refine Wk.of_eq ?_
    rw [e1, e2]; rfl
  refine ⟨fun h1 => ⟨?_, ?_⟩, fun h1 => ⟨?_, ?_⟩⟩
  · simp only [Cnd.holds]
    and_intros
    all_goals first | exact trivial | exact findKey_mE intT _ _ _ | exact e3 | (rw [e1]; rfl) | rfl
  · have hi : isIn x.b s = true := h1
    have hp : putS s x = s := by rw [putS, hi]
    rw [hi, hp]
    exact fits_pile s [(1001, 1001), (1002, 1002)] (by kernel_rfl) (by kernel_rfl) (VW.refl _) ⟨trivial, trivial⟩ (objs_pile s rfl rfl rfl rfl rfl rfl)
  · simp only [Cnd.holds]
    and_intros
    all_goals first | exact trivial | exact findKey_mE intT _ _ _ | exact e3 | exact hR | exact hP | exact VW.refl _ | exact OW.refl _ | exact OW.of_eq (by rw [rens_rowV]) | exact OW.of_eq (by rw [renE_mE]) | (rw [e1]; rfl) | rfl
  · have hi : isIn x.b s = false := h1
    have hp : putS s x = hpushS s x := by rw [putS, hi]
    rw [hi, hp]
    exact fits_one (VW.refl _) ⟨_, rfl, OW.refl _⟩
theorem lput0_tri (x : It) : Tri Try.prog default fLPut [.ptr 0 0, itA x] [(0, pO0)] (.v (.bool true)) [(0, pO (pushS emptyS x))] := by
  refine open_pile0 (tri_run (con := [(fHPush, cHPushO0)]) (hints := hPut0) (lc := []) [0, 1001, 1002] rfl (one_ok cHPushO0_ok) noL fun F => ?_)
  rw [oLPut0_eq]
  have e3 : Wk (AV.tuple [AV.v (Value.int IntKind.i64 (Int.ofNat 0)), AV.v (Value.bool false)]) (AV.tuple [AV.v (Value.int IntKind.i64 (Int.ofNat 0)), AV.lit false]) := by
    intro N y hy
    simp only [VR, VRs] at hy ⊢
    exact hy
  refine ⟨?_, fits_one (VW.refl _) ⟨_, rfl, OW.refl _⟩⟩
  simp only [Cnd.holds]
  and_intros
  all_goals first | exact trivial | exact e3 | exact VW.refl _ | exact OW.refl _ | rfl
def lpopS (s : Ps) : Ps := if s.xs.length = 0 then s else hpopS s
def lpopV (s : Ps) : It := if s.xs.length = 0 then It.zero else hpopV s
theorem lpop_tri (s : Ps) (hP : PI s) : Tri Try.prog default fLPop [.ptr 0 0] [(0, pO s)] (.tuple [itA (lpopV s), .v (.bool (!decide (s.xs.length = 0)))]) [(0, pO (lpopS s))] := by
  refine open_pile (tri_run (con := [(fHPop, cHPopO s)]) (hints := noHints) (lc := []) [0, 1001, 1002] rfl (one_ok (cHPopO_ok s)) noL fun F => ?_)
  rw [oLPop_eq]
  have hz : ((s.xs.length : Int) == Int.ofNat 0) = decide (s.xs.length = 0) := by
    by_cases h : s.xs.length = 0
    · rw [h]; rfl
    · simp only [h, decide_false]; apply beq_eq_false_iff_ne.2; simp only [Int.ofNat_eq_natCast]; omega
  rw [hz]
  refine ⟨fun h1 => ⟨?_, ?_⟩, fun h1 => ⟨?_, ?_⟩⟩
  · simp only [Cnd.holds]
    and_intros
    all_goals first | exact trivial | rfl
  · simp only [decide_eq_true_eq] at h1
    have e1 : lpopV s = It.zero := if_pos h1
    have e2 : lpopS s = s := if_pos h1
    have e3 : (!decide (s.xs.length = 0)) = false := by rw [decide_eq_true h1]; rfl
    rw [e1, e2, e3]
    exact fits_pile s [(1001, 1001), (1002, 1002)] (by kernel_rfl) (by kernel_rfl) (VW.refl _) ⟨⟨⟨trivial, trivial, trivial, trivial⟩, trivial, trivial⟩, trivial⟩ (objs_pile s rfl rfl rfl rfl rfl rfl)
  · simp only [decide_eq_false_iff_not] at h1
    simp only [Cnd.holds]
    and_intros
    all_goals first | exact trivial | exact hP | exact VW.refl _ | exact OW.refl _ | exact OW.of_eq (by rw [rens_rowV]) | exact OW.of_eq (by rw [renE_mE]) | omega | rfl
  · simp only [decide_eq_false_iff_not] at h1
    have e1 : lpopV s = hpopV s := if_neg h1
    have e2 : lpopS s = hpopS s := if_neg h1
    have e3 : decide (s.xs.length = 0) = false := decide_eq_false h1
    rw [e1, e2, e3]
    exact fits_one (VW.refl _) ⟨_, rfl, OW.refl _⟩
theorem lpop0_tri : Tri Try.prog default fLPop [.ptr 0 0] [(0, pO0)] (.tuple [itA It.zero, .v (.bool false)]) [(0, pO0)] := by
  refine open_pile0 (tri_run (con := []) (hints := noHints) (lc := []) [0, 1002] rfl noC noL fun F => ?_)
  rw [oLPop0_eq]
  refine ⟨fun _ => ⟨?_, fits_pile0 [(1002, 1002)] (by kernel_rfl) (by kernel_rfl) (VW.refl _) ⟨⟨⟨trivial, trivial, trivial, trivial⟩, trivial, trivial⟩, trivial⟩ ⟨⟨_, rfl, OW.refl _⟩, ⟨_, rfl, OW.refl _⟩, trivial⟩⟩, fun h => by cases h⟩
  simp only [Cnd.holds]
  and_intros
  all_goals first | exact trivial | rfl
end Go.Proofs.Ytcpijmlaglcblaa.Rk

/- A Line as the row of its items in their order: contracts. -/
set_option linter.unusedVariables false
set_option linter.unusedSimpArgs false
set_option maxRecDepth 100000
namespace Go.Proofs.Ytcpijmlaglcblaa.Rk
open Go Go.RowKit Go.Proofs.Ytcpijmlaglcblaa.Eng
/-- Into its place. -/
def ins (x : It) : List It → List It
  | [] => [x]
  | y :: l => if ahead x y = true then x :: y :: l else y :: ins x l
theorem ins_perm (x : It) : ∀ l, (ins x l).Perm (x :: l)
  | [] => List.Perm.refl _
  | y :: l => by
    rw [ins]
    split
    · exact List.Perm.refl _
    · exact ((ins_perm x l).cons y).trans (List.Perm.swap x y l)
abbrev Sortd (L : List It) : Prop := L.Pairwise (fun a b => ahead a b = true)
theorem ins_sorted {x : It} : ∀ {L : List It}, Sortd L → (∀ y ∈ L, y.b ≠ x.b) → Sortd (ins x L)
  | [], _, _ => List.pairwise_singleton _ _
  | y :: l, h, hb => by
    rw [ins]
    obtain ⟨h1, h2⟩ := List.pairwise_cons.1 h
    split
    · rename_i ha
      refine List.pairwise_cons.2 ⟨fun z hz => ?_, h⟩
      rcases List.mem_cons.1 hz with rfl | hz
      · exact ha
      · exact ahead_trans ha (h1 z hz)
    · rename_i ha
      refine List.pairwise_cons.2 ⟨fun z hz => ?_, ins_sorted h2 fun z hz => hb z (List.mem_cons_of_mem _ hz)⟩
      rcases List.mem_cons.1 ((ins_perm x l).subset hz) with rfl | hz
      · exact ahead_of_nb (show nb y z by rw [nb]; simpa using ha) (hb y List.mem_cons_self)
      · exact h1 z hz
/-- A pile is a row of items in their order. -/
structure AbsS (s : Ps) (L : List It) : Prop where
  pi : PI s
  map : MapOK s
  heap : HeapTo (at' s) s.xs.length
  perm : L.Perm s.xs
  sorted : Sortd L
theorem AbsS.len {s : Ps} {L : List It} (h : AbsS s L) : s.xs.length = L.length := h.perm.length_eq.symm
theorem mem_at {s : Ps} {x : It} : x ∈ s.xs ↔ ∃ i, i < s.xs.length ∧ at' s i = x := by
  rw [List.mem_iff_getElem]
  constructor
  · rintro ⟨i, hi, h⟩; exact ⟨i, hi, (at_get s i hi).trans h⟩
  · rintro ⟨i, hi, h⟩; exact ⟨i, hi, (at_get s i hi).symm.trans h⟩
theorem AbsS.isIn {s : Ps} {L : List It} (h : AbsS s L) (k : Int) : isIn k s = L.any fun y => y.b == k := by
  rw [Bool.eq_iff_iff, List.any_eq_true]
  unfold Rk.isIn
  rw [Option.isSome_iff_exists]
  constructor
  · rintro ⟨v, hv⟩
    obtain ⟨i, hi, hb, _⟩ := (h.map k v).1 hv
    exact ⟨at' s i, h.perm.mem_iff.2 (mem_at.2 ⟨i, hi, rfl⟩), by simp [hb]⟩
  · rintro ⟨y, hy, hb⟩
    obtain ⟨i, hi, rfl⟩ := mem_at.1 (h.perm.mem_iff.1 hy)
    exact ⟨i, (h.map k i).2 ⟨i, hi, by simpa using hb, rfl⟩⟩
theorem at_push (s : Ps) (x : It) (i : Nat) : at' (pushS s x) i = if i < s.xs.length then at' s i else if i = s.xs.length then x else It.zero := by
  simp only [at', pushS, List.getD]
  by_cases h : i < s.xs.length
  · rw [if_pos h, List.getElem?_append_left h]
  · rw [if_neg h, List.getElem?_append_right (by omega)]
    by_cases h2 : i = s.xs.length
    · rw [if_pos h2, h2, Nat.sub_self]; rfl
    · rw [if_neg h2, List.getElem?_eq_none (by simp; omega)]; rfl
theorem AbsS.push {s : Ps} {L : List It} (h : AbsS s L) (hR : Room s) (x : It) (hx : Rk.isIn x.b s = false) : AbsS (hpushS s x) (ins x L) := by
  have hP := h.pi.push hR x
  have hlen := push_len s x
  have hnew : ∀ i, i < s.xs.length → (at' s i).b ≠ x.b := by
    intro i hi e
    have := (h.map x.b i).2 ⟨i, hi, e, rfl⟩
    unfold Rk.isIn at hx
    rw [this] at hx; cases hx
  have hm : MapOK (pushS s x) := by
    intro k v
    show mlook k (mset s.m s.ck x.b s.xs.length) = some v ↔ _
    rw [mlook_mset, hlen]
    by_cases hk : k = x.b
    · rw [if_pos hk]
      constructor
      · intro e
        refine ⟨s.xs.length, by omega, ?_, (Option.some.inj e).symm⟩
        rw [at_push, if_neg (by omega), if_pos rfl, hk]
      · rintro ⟨i, hi, hb, rfl⟩
        rw [at_push] at hb
        split at hb
        · rename_i hlt; exact absurd (hb.trans hk) (hnew i hlt)
        · rw [show i = s.xs.length by omega]
    · rw [if_neg hk, h.map k v]
      constructor
      · rintro ⟨i, hi, hb, hv⟩
        exact ⟨i, by omega, by rw [at_push, if_pos hi]; exact hb, hv⟩
      · rintro ⟨i, hi, hb, hv⟩
        rw [at_push] at hb
        split at hb
        · rename_i hlt; exact ⟨i, hlt, hb, hv⟩
        · rw [if_pos (by omega)] at hb; exact absurd hb.symm hk
  have hup : HeapUp (at' (pushS s x)) (pushS s x).xs.length s.xs.length := by
    rw [hlen]
    refine ⟨fun c hc hcn hne => ?_, fun c hc hcn e _ => by omega⟩
    rw [at_push, at_push, if_pos (by omega), if_pos (by omega)]
    exact h.heap c hc (by omega)
  obtain ⟨q1, q2⟩ := up_heap s.xs.length (pushS s x) (by omega) hup
  obtain ⟨k1, k2⟩ := upS_keeps (pushS s x) s.xs.length hP
  refine ⟨k1, up_map _ _ (by omega) hm, by show HeapTo (at' (upS _ _)) (upS _ _).xs.length; rw [k2]; exact q1, ?_, ins_sorted h.sorted fun y hy => ?_⟩
  · refine (ins_perm x L).trans ?_
    refine ((h.perm.cons x).trans ?_).trans q2.symm
    show (x :: s.xs).Perm (s.xs ++ [x])
    exact (List.perm_append_comm (l₁ := [x]) (l₂ := s.xs))
  · obtain ⟨i, hi, rfl⟩ := mem_at.1 (h.perm.mem_iff.1 hy)
    exact hnew i hi
theorem AbsS.empty : AbsS emptyS [] := ⟨⟨MI.nil, by show 0 * 24 ≤ _; omega⟩, (fun k v => by
  show mlook k [] = some v ↔ _
  constructor
  · intro h; cases h
  · rintro ⟨i, hi, _⟩; cases hi), (fun c hc hcn => by cases hcn), List.Perm.refl _, List.Pairwise.nil⟩
theorem dropLast_at (s : Ps) (k : Nat) (hk : k < s.xs.length - 1) : at' (popS s) k = at' s k := by
  show s.xs.dropLast.getD k It.zero = s.xs.getD k It.zero
  rw [List.getD, List.getD, List.getElem?_dropLast, if_pos hk]
theorem AbsS.pop {s : Ps} {x : It} {L : List It} (h : AbsS s (x :: L)) : hpopV s = x ∧ AbsS (hpopS s) L := by
  have hn : s.xs.length = L.length + 1 := h.len
  have h0 : 0 < s.xs.length := by omega
  have hlast : s.xs.length - 1 < s.xs.length := by omega
  have hsl := swap_len s 0 (s.xs.length - 1)
  have hf : at' (swapS s 0 (s.xs.length - 1)) = swapF (at' s) 0 (s.xs.length - 1) := funext fun k => at_swap s _ _ k h0 hlast
  have hdown : HeapDown (at' (swapS s 0 (s.xs.length - 1))) (s.xs.length - 1) 0 := by
    rw [hf]
    refine ⟨fun c hc hcn hne => ?_, fun c _ _ _ h0' => by omega⟩
    rw [swapF, if_neg (by omega), if_neg hne, swapF, if_neg (by omega), if_neg (by omega)]
    exact h.heap c hc (by omega)
  obtain ⟨q1, q2, q3⟩ := down_heap (s.xs.length - 1) _ (swapS s 0 (s.xs.length - 1)) 0 (Nat.le_refl _) (by omega) hdown
  obtain ⟨k1, k2⟩ := downS_keeps (s.xs.length - 1) _ (swapS s 0 (s.xs.length - 1)) 0 (Nat.le_refl _) (h.pi.swap 0 (s.xs.length - 1))
  have hDlen : (hpopD s).xs.length = s.xs.length := k2.trans hsl
  have hmap : MapOK (hpopD s) := down_map _ _ _ _ (Nat.le_refl _) (by omega) (h.map.swap h0 hlast)
  have hroot : at' (hpopD s) (s.xs.length - 1) = at' s 0 := by
    show at' (downS _ _ _).1 _ = _
    rw [q3 _ (Nat.le_refl _), hf, swapF, if_pos rfl]
  have hx : at' s 0 = x := by
    have hm : at' s 0 ∈ x :: L := h.perm.mem_iff.2 (mem_at.2 ⟨0, h0, rfl⟩)
    rcases List.mem_cons.1 hm with e | e
    · exact e
    · have h1 := (List.pairwise_cons.1 h.sorted).1 _ e
      obtain ⟨i, hi, hxi⟩ := mem_at.1 (h.perm.mem_iff.1 (List.mem_cons_self (a := x) (l := L)))
      have h2 := heap_root h.heap i hi
      rw [hxi, nb, h1] at h2; cases h2
  have hlastD : at' (hpopD s) ((hpopD s).xs.length - 1) = x := by rw [hDlen, hroot, hx]
  refine ⟨hlastD, ?_⟩
  have hpl : (hpopS s).xs.length = s.xs.length - 1 := by
    show (hpopD s).xs.dropLast.length = _
    rw [List.length_dropLast, hDlen]
  have hat : ∀ k, k < s.xs.length - 1 → at' (hpopS s) k = at' (hpopD s) k := fun k hk => dropLast_at _ _ (by rw [hDlen]; exact hk)
  refine ⟨⟨k1.m.mdel _, by have := k1.big; rw [hpl]; have e : (downS (swapS s 0 (s.xs.length - 1)) 0 (s.xs.length - 1)).1.xs.length = s.xs.length := hDlen; omega⟩, ?_, ?_, ?_, (List.pairwise_cons.1 h.sorted).2⟩
  · intro k v
    show mlook k (mdel (hpopD s).m (at' (hpopD s) ((hpopD s).xs.length - 1)).b) = some v ↔ _
    have hDm : MI (hpopD s).m (hpopD s).ck := k1.m
    rw [mlook_mdel hDm, hpl, hDlen]
    by_cases hk : k = (at' (hpopD s) (s.xs.length - 1)).b
    · rw [if_pos hk]
      constructor
      · intro e; cases e
      · rintro ⟨i, hi, hb, _⟩
        rw [hat i hi] at hb
        have := hmap.inj (i := i) (j := s.xs.length - 1) (by rw [hDlen]; omega) (by rw [hDlen]; omega) (hb.trans hk)
        omega
    · rw [if_neg hk, hmap k v, hDlen]
      constructor
      · rintro ⟨i, hi, hb, hv⟩
        have hne : i ≠ s.xs.length - 1 := fun e => hk (by rw [← hb, e])
        exact ⟨i, by omega, by rw [hat i (by omega)]; exact hb, hv⟩
      · rintro ⟨i, hi, hb, hv⟩
        exact ⟨i, by omega, by rw [← hat i hi]; exact hb, hv⟩
  · rw [hpl]
    intro c hc hcn
    rw [hat c hcn, hat _ (by omega)]
    exact q1 c hc hcn
  · have hp : (x :: L).Perm (hpopD s).xs := h.perm.trans ((q2.trans (swap_perm s 0 (s.xs.length - 1) h0 hlast)).symm)
    have hne : (hpopD s).xs ≠ [] := fun e => by rw [e] at hDlen; simp only [List.length_nil] at hDlen; omega
    have hl : (hpopD s).xs.getLast hne = x := by
      rw [List.getLast_eq_getElem, ← hlastD, at_get _ _ (by rw [hDlen]; exact hlast)]
    have hsplit : (hpopD s).xs = (hpopD s).xs.dropLast ++ [x] := by rw [← hl]; exact (List.dropLast_concat_getLast hne).symm
    rw [hsplit] at hp
    have := hp.trans (List.perm_append_comm (l₁ := (hpopD s).xs.dropLast) (l₂ := [x]))
    exact (List.perm_cons x).1 this
/-! A Line whole. -/
def Abs : Option Ps → List It → Prop
  | none, L => L = []
  | some s, L => AbsS s L
noncomputable section
def pLO : Option Ps → LH
  | none => pL0
  | some s => pL s
def lH (L : List It) : Nat → Nat → HP := exHP (fun o : Option Ps => Abs o L) pLO
def lO (L : List It) : AO := .own (.line L) (lH L)
end
theorem ow_line {s : Ps} {L : List It} (h : AbsS s L) : OW (pO s) (lO L) := fun N i D w ⟨l, h1, h2, _, _, h3⟩ => ⟨l, h1, h2, some s, h, h3⟩
theorem ow_line0 : OW pO0 (lO []) := fun N i D w ⟨l, h1, h2, _, _, h3⟩ => ⟨l, h1, h2, none, rfl, h3⟩
theorem goes_ow {vs : List AV} {i : Nat} {o o' : AO} (hi : i < 1100) (h : OW o o') : Goes vs [(i, o)] vs [(i, o')] := by
  intro W0 F N ys w ⟨N', g1, g2, r, hv⟩
  have hlim : i < T.limit := by have : T.limit = 1048576 := rfl; omega
  have hf : ∀ (a : AO) j b, (heapOf [(i, a)]).find j = some b → j = i ∧ b = a := by
    intro a j b hj
    rw [find_heapOf (by simp only [namesLt, List.all_cons, List.all_nil, Bool.and_true, Nat.blt_eq]; exact hlim), getO] at hj
    split at hj
    · rename_i e; cases hj; exact ⟨e, rfl⟩
    · cases hj
  have hf2 : (heapOf [(i, o)]).find i = some o := by
    rw [find_heapOf (by simp only [namesLt, List.all_cons, List.all_nil, Bool.and_true, Nat.blt_eq]; exact hlim), getO, if_pos rfl]
  refine ⟨N', g1, fun j hj hg => g2 j hj ?_, ?_, hv⟩
  · rw [getO] at hg ⊢
    split at hg
    · cases hg
    · rename_i e; rw [if_neg e]; rfl
  · obtain ⟨D0, D, h1, h2, h3⟩ := r.sat
    refine ⟨r.os, r.tape, r.output, D0, D, h1, fun j b hj => ?_, fun j k b b' hj hk hjk => ?_⟩
    · obtain ⟨rfl, rfl⟩ := hf _ j b hj
      exact ⟨h _ _ _ _ (h2 j o hf2).1, (h2 j o hf2).2⟩
    · exact (hjk ((hf _ j b hj).1.trans (hf _ k b' hk).1.symm)).elim
theorem open_line {f : FuncId} {A : List AV} {L : List It} {v : AV} {H' : LH} (hA : AV.cls (fun i => Nat.blt i 1000) A) (h1 : ∀ s, AbsS s L → Tri Try.prog default f A [(0, pO s)] v H') (h0 : L = [] → Tri Try.prog default f A [(0, pO0)] v H') : Tri Try.prog default f A [(0, lO L)] v H' := by
  refine Tri.open (σ := Option Ps) (R := fun o => Abs o L) (L := pLO) (H0 := []) (fun o => by cases o <;> rfl) (fun o x hx => ?_) (fun o => by cases o <;> exact ⟨_, rfl⟩) (fun o ho => ?_)
  · cases o with
    | none =>
      have hx : x ∈ pL0 := hx
      simp only [pL0, List.mem_cons, List.not_mem_nil, or_false] at hx
      rcases hx with rfl | rfl
      · exact ⟨trivial, rfl, trivial⟩
      · exact trivial
    | some s =>
      have hx : x ∈ pL s := hx
      simp only [pL, List.mem_cons, List.not_mem_nil, or_false] at hx
      rcases hx with rfl | rfl | rfl
      · exact ⟨rfl, rfl, trivial⟩
      · exact cls_rowV _ _
      · exact clE_mE _ _
  · rw [List.append_nil]
    cases o with
    | none => exact Tri.pre (shut_pile0 hA) (h0 ho)
    | some s => exact Tri.pre (shut_pile s hA) (h1 s ho)
def hasSeq (k : Int) (L : List It) : Bool := L.any fun y => y.b == k
def putL (L : List It) (x : It) : List It := match hasSeq x.b L with
  | true => L
  | false => ins x L
def RoomL (L : List It) : Prop := (L.length + 1) * 24 ≤ 140737488355328
theorem Aput_tri (L : List It) (x : It) (hR : RoomL L) : Tri Try.prog default fLPut [.ptr 0 0, itA x] [(0, lO L)] (.v (.bool (!hasSeq x.b L))) [(0, lO (putL L x))] := by
  refine open_line ⟨rfl, ⟨trivial, trivial, trivial, trivial⟩, trivial⟩ (fun s hs => ?_) (fun e => ?_)
  · have hR' : Room s := by unfold Room; rw [hs.len]; exact hR
    have e1 := hs.isIn x.b
    have ht := lput_tri s x hs.pi hR'
    rw [e1] at ht
    refine Tri.post ht (goes_ow (by decide) ?_)
    cases hb : hasSeq x.b L with
    | true =>
      have : isIn x.b s = true := e1.trans hb
      rw [putL, hb, putS, this]
      exact ow_line hs
    | false =>
      have : isIn x.b s = false := e1.trans hb
      rw [putL, hb, putS, this]
      exact ow_line (hs.push hR' x this)
  · subst e
    refine Tri.post (lput0_tri x) (goes_ow (by decide) ?_)
    have := AbsS.empty.push (by show (0 + 1) * 24 ≤ _; omega) x rfl
    have e : hpushS emptyS x = pushS emptyS x := upS_zero _
    rw [e] at this
    exact ow_line this
theorem Apop_tri (L : List It) : Tri Try.prog default fLPop [.ptr 0 0] [(0, lO L)] (.tuple [itA (L.headD It.zero), .v (.bool (!L.isEmpty))]) [(0, lO L.tail)] := by
  refine open_line ⟨rfl, trivial⟩ (fun s hs => ?_) (fun e => ?_)
  · have ht := lpop_tri s hs.pi
    cases L with
    | nil =>
      have h0 : s.xs.length = 0 := hs.len
      have e1 : lpopV s = It.zero := if_pos h0
      have e2 : lpopS s = s := if_pos h0
      have e3 : (!decide (s.xs.length = 0)) = false := by rw [decide_eq_true h0]; rfl
      rw [e1, e2, e3] at ht
      exact Tri.post ht (goes_ow (by decide) (ow_line hs))
    | cons x L =>
      have h0 : s.xs.length ≠ 0 := by rw [hs.len]; simp
      have e1 : lpopV s = hpopV s := if_neg h0
      have e2 : lpopS s = hpopS s := if_neg h0
      have e3 : (!decide (s.xs.length = 0)) = true := by rw [decide_eq_false h0]; rfl
      rw [e1, e2, e3, hs.pop.1] at ht
      exact Tri.post ht (goes_ow (by decide) (ow_line hs.pop.2))
  · subst e
    exact Tri.post lpop0_tri (goes_ow (by decide) ow_line0)
theorem Alen_tri (L : List It) : Tri Try.prog default fLLen [.ptr 0 0] [(0, lO L)] (iv (Int.ofNat L.length)) [(0, lO L)] := by
  refine open_line ⟨rfl, trivial⟩ (fun s hs => ?_) (fun e => ?_)
  · have ht := llen_tri s
    rw [hs.len] at ht
    exact Tri.post ht (goes_ow (by decide) (ow_line hs))
  · subst e
    exact Tri.post llen0_tri (goes_ow (by decide) ow_line0)
theorem Anew_tri : Tri Try.prog default fNew [] [] (.ptr 1000 0) [(1000, lO [])] := Tri.post new_tri (goes_ow (by decide) ow_line0)
end Go.Proofs.Ytcpijmlaglcblaa.Rk

