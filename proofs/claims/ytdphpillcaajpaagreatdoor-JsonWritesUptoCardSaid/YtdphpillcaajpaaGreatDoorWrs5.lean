/- Parts of the proof, merged. -/
import Derived.Test.YtdphpillcaajpaaGreatDoorWrs3
import Derived.Test.YtdphpillcaajpaaGreatDoorWrs4
import Derived.Test.YtdphpillcaajpaaGreatDoorEngXWrs
set_option linter.unusedVariables false
set_option linter.unusedSimpArgs false
set_option maxRecDepth 100000
set_option linter.unusedSectionVars false
namespace Go.Proofs.YtdphpillcaajpaaGreatDoor.Js
open Go Go.RowKit Eng Kit
noncomputable section
abbrev fCk : Nat := 18
def ivE (n : Int) : AV := iv n
def metO (m : KMap ByteArray Int) (c : Nat) : AO := .map (kE Value.string ivE m) c
def cCk (x : Rj) (dep : Nat) (e : Int) : List AV → Option (AP AV) := mkC (fun _ => .ret ()) (fun _ => True) (fun _ k => k) (fun _ => [aggJ x, iv (Int.ofNat dep)]) (fun _ => []) (fun _ => .leaf .ret [iv e] [])
def oCk (r : Rj) (m : KMap ByteArray Int) (c : Nat) : LH := [(1000, .cells (vmap r.cells) tJs), (1001, metO m c)]
def aCk (r : Rj) (dep j : Nat) : List (Nat × AV) := [(1, iv (Int.ofNat dep)), (2, .ptr 1000 0), (5, iv r.k), (9, .map 1001), (113, slV r.la r.ll r.lc), (114, iv (Int.ofNat r.ll)), (115, iv (Int.ofNat j))]
def iCk : List Nat := [1, 2, 4, 5, 9, 113, 114, 115]
def kR (K : Nat) (r : Rj) : Rj := { r with k := Int.ofNat K }
def hCkR (obj : Bool) (j dep : Nat) (x : Rj) (nm : ByteArray) (old : Nat) (m : KMap ByteArray Int) (c : Nat) (dup bad : Bool) : B8' := A9' [(fCk, 18, 0, hv (.lit true)), (fCk, 19, 2, hv (aggJ x)), (fCk, 20, 1, hv (.lit obj)), (fCk, 21, 5, hv (sv nm)), (fCk, 21, 6, hv (iv (Int.ofNat old))), (fCk, 21, 7, hv (iv (Int.ofNat (old + 1)))), (fCk, 21, 8, ho 1001 (metO m c)),
 (fCk, 22, 5, hv (sv nm)), (fCk, 22, 6, hv (iv (Int.ofNat (old + 1)))), (fCk, 22, 7, hv (.lit dup)), (fCk, 24, 2, hv (iv (Int.ofNat (dep + 1)))), (fCk, 25, 1, hv (.lit bad)), (fCk, 27, 0, hv (iv (Int.ofNat (j + 1))))]
noncomputable section
abbrev k65' (q0 : Rj) : Cnd := (f' (Wk (b' (decide (Int.ofNat q0.ll < Int.ofNat q0.ll))) g'))
end
theorem TM' (W : World) (r : Rj) (dep : Nat) (m : KMap ByteArray Int) (c : Nat) (F : HP) : AR' [] (A9' [(fCk, 18, 0, hv (.lit false))]) [] W fCk (A2' fCk 18) (tms 0 146 (aCk r dep r.ll)) (oCk r m c) [1000, 1001] iCk F = VT.leaf (AX.exit 1,[i' dep,AV.ptr 1000 0,a',z' r.k,AV.map 1001,AV.v (Value.slice r.la r.ll r.lc),i' r.ll,i' r.ll],146) [some (AO.cells [z' r.k,z' r.n,s' r.t,AV.v (Value.slice r.la r.ll r.lc),AV.v (Value.slice r.na r.nl r.nc)] 50),some (AO.map (kE Value.string ivE m) c)] 1100 ((k65' r).a t') := by kernel_rfl
noncomputable section
abbrev k66' (q0 : Nat) (q1 : Rj) : Cnd := (f' (Wk (b' (decide (Int.ofNat q0 < Int.ofNat q1.ll))) j'))
abbrev k67' (q0 : World) (q1 : Addr) (q2 : Nat) (q3 : Rj) : Cnd := ((p' (([0,1,2,3,4].all fun j_1 => (q0.cell? ((q1.add (q2 * 5)).add j_1)).isSome) = true)).a ((p' ([AV.v ((q0.cell? ((q1.add (q2 * 5)).add 0)).getD (Value.tuple (Array.mk []))),AV.v ((q0.cell? (Addr.mk (q1.add (q2 * 5)).block ((q1.add (q2 * 5)).off + 1) none)).getD (Value.tuple (Array.mk []))),AV.v ((q0.cell? (Addr.mk (q1.add (q2 * 5)).block ((q1.add (q2 * 5)).off + 2) none)).getD (Value.tuple (Array.mk []))),AV.v ((q0.cell? (Addr.mk (q1.add (q2 * 5)).block ((q1.add (q2 * 5)).off + 3) none)).getD (Value.tuple (Array.mk []))),AV.v ((q0.cell? (Addr.mk (q1.add (q2 * 5)).block ((q1.add (q2 * 5)).off + 4) none)).getD (Value.tuple (Array.mk [])))] = [AV.v (Value.int IntKind.i64 (AV.v ((q0.cell? ((q1.add (q2 * 5)).add 0)).getD (Value.tuple (Array.mk [])))).intOf),AV.v (Value.int IntKind.i64 (AV.v ((q0.cell? (Addr.mk (q1.add (q2 * 5)).block ((q1.add (q2 * 5)).off + 1) none)).getD (Value.tuple (Array.mk [])))).intOf),AV.v (Value.string (AV.v ((q0.cell? (Addr.mk (q1.add (q2 * 5)).block ((q1.add (q2 * 5)).off + 2) none)).getD (Value.tuple (Array.mk [])))).strOf),AV.v ((q0.cell? (Addr.mk (q1.add (q2 * 5)).block ((q1.add (q2 * 5)).off + 3) none)).getD (Value.tuple (Array.mk []))),AV.v ((q0.cell? (Addr.mk (q1.add (q2 * 5)).block ((q1.add (q2 * 5)).off + 4) none)).getD (Value.tuple (Array.mk [])))])).a (f' (Wk (AV.agg [AV.v (Value.int IntKind.i64 (AV.v ((q0.cell? ((q1.add (q2 * 5)).add 0)).getD (Value.tuple (Array.mk [])))).intOf),AV.v (Value.int IntKind.i64 (AV.v ((q0.cell? (Addr.mk (q1.add (q2 * 5)).block ((q1.add (q2 * 5)).off + 1) none)).getD (Value.tuple (Array.mk [])))).intOf),AV.v (Value.string (AV.v ((q0.cell? (Addr.mk (q1.add (q2 * 5)).block ((q1.add (q2 * 5)).off + 2) none)).getD (Value.tuple (Array.mk [])))).strOf),AV.v ((q0.cell? (Addr.mk (q1.add (q2 * 5)).block ((q1.add (q2 * 5)).off + 3) none)).getD (Value.tuple (Array.mk []))),AV.v ((q0.cell? (Addr.mk (q1.add (q2 * 5)).block ((q1.add (q2 * 5)).off + 4) none)).getD (Value.tuple (Array.mk [])))]) (AV.agg [z' q3.k,z' q3.n,s' q3.t,AV.v (Value.slice q3.la q3.ll q3.lc),AV.v (Value.slice q3.na q3.nl q3.nc)])))))
abbrev k68' (q0 : Rj) : Cnd := ((p' (true = true)).a (f' ([z' q0.k,z' q0.n,s' q0.t,AV.v (Value.slice q0.la q0.ll q0.lc),AV.v (Value.slice q0.na q0.nl q0.nc)] = [z' q0.k,z' q0.n,s' q0.t,AV.v (Value.slice q0.la q0.ll q0.lc),AV.v (Value.slice q0.na q0.nl q0.nc)])))
abbrev k69' (q0 : Rj) (q1 : Nat) : Cnd := ((p' True).a (f' (VW [AV.agg [z' q0.k,z' q0.n,s' q0.t,AV.v (Value.slice q0.la q0.ll q0.lc),AV.v (Value.slice q0.na q0.nl q0.nc)],i' (q1 + 1)] [AV.agg [z' q0.k,z' q0.n,s' q0.t,AV.v (Value.slice q0.la q0.ll q0.lc),AV.v (Value.slice q0.na q0.nl q0.nc)],i' (q1 + 1)])))
end
theorem WY' (W : World) (r x : Rj) (a : Addr) (dep j : Nat) (F : HP) : AR' [(fCk, cCk x (dep + 1) 0)] (hCkR false j dep x nil0 0 [] 0 false false) [] W fCk (A2' fCk 18) (tms 0 146 (aCk (kR 5 { r with la := some a }) dep j)) (oCk (kR 5 { r with la := some a }) [] 0) [1000, 1001] iCk F = VT.leaf (AX.normal,[i' dep,AV.ptr 1000 0,a',i' 5,AV.map 1001,AV.v (Value.slice (some a) r.ll r.lc),i' r.ll,i' (j + 1)],146) [some (AO.cells [i' 5,z' r.n,s' r.t,AV.v (Value.slice (some a) r.ll r.lc),AV.v (Value.slice r.na r.nl r.nc)] 50),some (AO.map [] 0)] 1101 ((k66' j r).a ((k58' j r).a ((k67' W a j x).a (k8'.a (k32'.a ((k68' x).a ((k7' dep).a ((k69' x dep).a (k32'.a ((k7' j).a t')))))))))) := by kernel_rfl
noncomputable section
abbrev k70' (q0 : Int) : Cnd := (f' (Wk (b' (q0 != Int.ofNat 0)) j'))
end
theorem WX' (W : World) (r x : Rj) (a : Addr) (dep j : Nat) (e : Int) (F : HP) : AR' [(fCk, cCk x (dep + 1) e)] (hCkR false j dep x nil0 0 [] 0 false true) [] W fCk (A2' fCk 18) (tms 0 146 (aCk (kR 5 { r with la := some a }) dep j)) (oCk (kR 5 { r with la := some a }) [] 0) [1000, 1001] iCk F = VT.leaf (AX.ret,[i' dep,AV.ptr 1000 0,z' e,i' 5,AV.map 1001,AV.v (Value.slice (some a) r.ll r.lc),i' r.ll,i' j],146) [some (AO.cells [i' 5,z' r.n,s' r.t,AV.v (Value.slice (some a) r.ll r.lc),AV.v (Value.slice r.na r.nl r.nc)] 50),some (AO.map [] 0)] 1101 ((k66' j r).a ((k58' j r).a ((k67' W a j x).a (k8'.a (k32'.a ((k68' x).a ((k7' dep).a ((k69' x dep).a ((k70' e).a t'))))))))) := by kernel_rfl
noncomputable section
abbrev k71' : Cnd := (f' (Wk (i' 1) (i' 1)))
end
theorem WT' (W : World) (r x : Rj) (a b : Addr) (nm : ByteArray) (dep j : Nat) (m m' : KMap ByteArray Int) (c : Nat) (F : HP) : AR' [(fCk, cCk x (dep + 1) 0)] (hCkR true j dep x nm 0 m' (c + 1) false false) [] W fCk (A2' fCk 18) (tms 0 146 (aCk (kR 6 { r with la := some a, na := some b }) dep j)) (oCk (kR 6 { r with la := some a, na := some b }) m c) [1000, 1001] iCk F = VT.leaf (AX.normal,[i' dep,AV.ptr 1000 0,a',i' 6,AV.map 1001,AV.v (Value.slice (some a) r.ll r.lc),i' r.ll,i' (j + 1)],146) [some (AO.cells [i' 6,z' r.n,s' r.t,AV.v (Value.slice (some a) r.ll r.lc),AV.v (Value.slice (some b) r.nl r.nc)] 50),some (AO.map (kE Value.string ivE m') (c + 1))] 1101 ((k66' j r).a ((k58' j r).a ((k67' W a j x).a (k8'.a (k24'.a (k8'.a ((k55' j r).a ((k56' W b j nm).a (((p' (findKey Tryz.prog (envW [(18,cCk x (dep + 1) (Int.ofNat 0))] (hCkR true j dep x nm 0 m' (c + 1) false false) [] W F) 9 (s' nm) (kE Value.string ivE m) 0 = AP.ret (AZ' (s' nm) (kE Value.string ivE m) 0))).a ((p' (BU' (AZ' (s' nm) (kE Value.string ivE m) 0) (Value.int IntKind.i64 (Int.ofNat 0)) = AV.v (Value.int IntKind.i64 (BU' (AZ' (s' nm) (kE Value.string ivE m) 0) (Value.int IntKind.i64 (Int.ofNat 0))).intOf))).a (f' (Wk (AV.v (Value.int IntKind.i64 (BU' (AZ' (s' nm) (kE Value.string ivE m) 0) (Value.int IntKind.i64 (Int.ofNat 0))).intOf)) (i' 0))))).a (k71'.a (((p' (findKey Tryz.prog (envW [(18,cCk x (dep + 1) (Int.ofNat 0))] (hCkR true j dep x nm 0 m' (c + 1) false false) [] W F) 9 (s' nm) (kE Value.string ivE m) 0 = AP.ret (AZ' (s' nm) (kE Value.string ivE m) 0))).a ((p' (GZ' (s' nm) (kE Value.string ivE m))).a (f' (OW (AO.map (setE (s' nm) (i' 1) (kE Value.string ivE m) c) (ES' (s' nm) (kE Value.string ivE m) c)) (AO.map (kE Value.string ivE m') (c + 1)))))).a (k8'.a ((k55' j r).a ((k56' W b j nm).a (((p' (findKey Tryz.prog (envW [(18,cCk x (dep + 1) (Int.ofNat 0))] (hCkR true j dep x nm 0 m' (c + 1) false false) [] W F) 9 (s' nm) (kE Value.string ivE m') 0 = AP.ret (AZ' (s' nm) (kE Value.string ivE m') 0))).a ((p' (BU' (AZ' (s' nm) (kE Value.string ivE m') 0) (Value.int IntKind.i64 (Int.ofNat 0)) = AV.v (Value.int IntKind.i64 (BU' (AZ' (s' nm) (kE Value.string ivE m') 0) (Value.int IntKind.i64 (Int.ofNat 0))).intOf))).a (f' (Wk (AV.v (Value.int IntKind.i64 (BU' (AZ' (s' nm) (kE Value.string ivE m') 0) (Value.int IntKind.i64 (Int.ofNat 0))).intOf)) (i' 1))))).a (k32'.a ((k68' x).a ((k7' dep).a ((k69' x dep).a (k32'.a ((k7' j).a t'))))))))))))))))))))) := by kernel_rfl
theorem WS' (W : World) (r x : Rj) (a b : Addr) (nm : ByteArray) (dep j : Nat) (m m' : KMap ByteArray Int) (c : Nat) (e : Int) (F : HP) : AR' [(fCk, cCk x (dep + 1) e)] (hCkR true j dep x nm 0 m' (c + 1) false true) [] W fCk (A2' fCk 18) (tms 0 146 (aCk (kR 6 { r with la := some a, na := some b }) dep j)) (oCk (kR 6 { r with la := some a, na := some b }) m c) [1000, 1001] iCk F = VT.leaf (AX.ret,[i' dep,AV.ptr 1000 0,z' e,i' 6,AV.map 1001,AV.v (Value.slice (some a) r.ll r.lc),i' r.ll,i' j],146) [some (AO.cells [i' 6,z' r.n,s' r.t,AV.v (Value.slice (some a) r.ll r.lc),AV.v (Value.slice (some b) r.nl r.nc)] 50),some (AO.map (kE Value.string ivE m') (c + 1))] 1101 ((k66' j r).a ((k58' j r).a ((k67' W a j x).a (k8'.a (k24'.a (k8'.a ((k55' j r).a ((k56' W b j nm).a (((p' (findKey Tryz.prog (envW [(18,cCk x (dep + 1) e)] (hCkR true j dep x nm 0 m' (c + 1) false true) [] W F) 9 (s' nm) (kE Value.string ivE m) 0 = AP.ret (AZ' (s' nm) (kE Value.string ivE m) 0))).a ((p' (BU' (AZ' (s' nm) (kE Value.string ivE m) 0) (Value.int IntKind.i64 (Int.ofNat 0)) = AV.v (Value.int IntKind.i64 (BU' (AZ' (s' nm) (kE Value.string ivE m) 0) (Value.int IntKind.i64 (Int.ofNat 0))).intOf))).a (f' (Wk (AV.v (Value.int IntKind.i64 (BU' (AZ' (s' nm) (kE Value.string ivE m) 0) (Value.int IntKind.i64 (Int.ofNat 0))).intOf)) (i' 0))))).a (k71'.a (((p' (findKey Tryz.prog (envW [(18,cCk x (dep + 1) e)] (hCkR true j dep x nm 0 m' (c + 1) false true) [] W F) 9 (s' nm) (kE Value.string ivE m) 0 = AP.ret (AZ' (s' nm) (kE Value.string ivE m) 0))).a ((p' (GZ' (s' nm) (kE Value.string ivE m))).a (f' (OW (AO.map (setE (s' nm) (i' 1) (kE Value.string ivE m) c) (ES' (s' nm) (kE Value.string ivE m) c)) (AO.map (kE Value.string ivE m') (c + 1)))))).a (k8'.a ((k55' j r).a ((k56' W b j nm).a (((p' (findKey Tryz.prog (envW [(18,cCk x (dep + 1) e)] (hCkR true j dep x nm 0 m' (c + 1) false true) [] W F) 9 (s' nm) (kE Value.string ivE m') 0 = AP.ret (AZ' (s' nm) (kE Value.string ivE m') 0))).a ((p' (BU' (AZ' (s' nm) (kE Value.string ivE m') 0) (Value.int IntKind.i64 (Int.ofNat 0)) = AV.v (Value.int IntKind.i64 (BU' (AZ' (s' nm) (kE Value.string ivE m') 0) (Value.int IntKind.i64 (Int.ofNat 0))).intOf))).a (f' (Wk (AV.v (Value.int IntKind.i64 (BU' (AZ' (s' nm) (kE Value.string ivE m') 0) (Value.int IntKind.i64 (Int.ofNat 0))).intOf)) (i' 1))))).a (k32'.a ((k68' x).a ((k7' dep).a ((k69' x dep).a ((k70' e).a t')))))))))))))))))))) := by kernel_rfl
theorem WU' (W : World) (r x : Rj) (a b : Addr) (nm : ByteArray) (dep j : Nat) (m m' : KMap ByteArray Int) (c c' : Nat) (F : HP) : AR' [] (hCkR true j dep x nm 1 m' c' true false) [] W fCk (A2' fCk 18) (tms 0 146 (aCk (kR 6 { r with la := some a, na := some b }) dep j)) (oCk (kR 6 { r with la := some a, na := some b }) m c) [1000, 1001] iCk F = VT.leaf (AX.ret,[i' dep,AV.ptr 1000 0,i' 5,i' 6,AV.map 1001,AV.v (Value.slice (some a) r.ll r.lc),i' r.ll,i' j],146) [some (AO.cells [i' 6,z' r.n,s' r.t,AV.v (Value.slice (some a) r.ll r.lc),AV.v (Value.slice (some b) r.nl r.nc)] 50),some (AO.map (kE Value.string ivE m') c')] 1101 ((k66' j r).a ((k58' j r).a ((k67' W a j x).a (k8'.a (k24'.a (k8'.a ((k55' j r).a ((k56' W b j nm).a (((p' (findKey Tryz.prog (envW [] (hCkR true j dep x nm 1 m' c' true false) [] W F) 9 (s' nm) (kE Value.string ivE m) 0 = AP.ret (AZ' (s' nm) (kE Value.string ivE m) 0))).a ((p' (BU' (AZ' (s' nm) (kE Value.string ivE m) 0) (Value.int IntKind.i64 (Int.ofNat 0)) = AV.v (Value.int IntKind.i64 (BU' (AZ' (s' nm) (kE Value.string ivE m) 0) (Value.int IntKind.i64 (Int.ofNat 0))).intOf))).a (f' (Wk (AV.v (Value.int IntKind.i64 (BU' (AZ' (s' nm) (kE Value.string ivE m) 0) (Value.int IntKind.i64 (Int.ofNat 0))).intOf)) (i' 1))))).a ((f' (Wk (i' 2) (i' 2))).a (((p' (findKey Tryz.prog (envW [] (hCkR true j dep x nm 1 m' c' true false) [] W F) 9 (s' nm) (kE Value.string ivE m) 0 = AP.ret (AZ' (s' nm) (kE Value.string ivE m) 0))).a ((p' (GZ' (s' nm) (kE Value.string ivE m))).a (f' (OW (AO.map (setE (s' nm) (i' 2) (kE Value.string ivE m) c) (ES' (s' nm) (kE Value.string ivE m) c)) (AO.map (kE Value.string ivE m') c'))))).a (k8'.a ((k55' j r).a ((k56' W b j nm).a (((p' (findKey Tryz.prog (envW [] (hCkR true j dep x nm 1 m' c' true false) [] W F) 9 (s' nm) (kE Value.string ivE m') 0 = AP.ret (AZ' (s' nm) (kE Value.string ivE m') 0))).a ((p' (BU' (AZ' (s' nm) (kE Value.string ivE m') 0) (Value.int IntKind.i64 (Int.ofNat 0)) = AV.v (Value.int IntKind.i64 (BU' (AZ' (s' nm) (kE Value.string ivE m') 0) (Value.int IntKind.i64 (Int.ofNat 0))).intOf))).a (f' (Wk (AV.v (Value.int IntKind.i64 (BU' (AZ' (s' nm) (kE Value.string ivE m') 0) (Value.int IntKind.i64 (Int.ofNat 0))).intOf)) (i' 2))))).a (k24'.a t')))))))))))))))) := by kernel_rfl
def gCk (tmps : List AV) : AP (Nat × Nat) := match getL tmps 2 with
 | .ptr a _ => match getL tmps 9 with
  | .map b => .ret (a, b)
  | _ => .fail "check"
 | _ => .fail "check"
def lCkE (p : Prop) (r : Rj) (dep : Nat) : List AV → AP (AX × List AV) := mkL gCk (fun _ => p) (fun q => nmSa q.1 q.2) (fun _ => tms 0 146 (aCk r dep 0)) (fun _ => oCk r [] 0) (fun _ => .leaf (.exit 1) (tms 0 146 []) [])
def lCkR (p : Prop) (r : Rj) (dep : Nat) (e : Int) : List AV → AP (AX × List AV) := mkL gCk (fun _ => p) (fun q => nmSa q.1 q.2) (fun _ => tms 0 146 (aCk r dep 0)) (fun _ => oCk r [] 0) (fun _ => .leaf .ret (tms 0 146 [(4, iv e)]) [])
def hCk (K : Nat) (lo hi : Bool) : B8' := A9' [(fCk, 2, 1, hv (.lit (Nat.beq K 5))), (fCk, 2, 4, hv (.lit (Nat.beq K 6))), (fCk, 4, 1, hv (.lit lo)), (fCk, 4, 4, hv (.lit hi)), (fCk, 8, 1, hv (.lit (Nat.beq K 2))), (fCk, 9, 1, hv (.lit (!Nat.beq K 2))), (fCk, 10, 1, hv (.lit (Nat.beq K 3))), (fCk, 11, 1, hv (.lit (!Nat.beq K 3))), (fCk, 11, 4, hv (.lit (!Nat.beq K 4))),
 (fCk, 12, 1, hv (.lit (!(Nat.beq K 5 || Nat.beq K 6)))), (fCk, 13, 1, hv (.lit (Nat.beq K 6))), (fCk, 14, 1, hv (.lit (!Nat.beq K 6)))]
noncomputable section
abbrev k72' (q0 : Rj) : Cnd := (f' (Wk (b' (q0.k == Int.ofNat 5)) g'))
abbrev k73' (q0 : Rj) : Cnd := (f' (Wk (b' (q0.k == Int.ofNat 6)) g'))
abbrev k74' (q0 : Rj) : Cnd := ((p' (Few q0.t.size)).a (f' (VW [s' q0.t] [s' q0.t])))
abbrev k75' (q0 : Rj) : Cnd := (f' (Wk (b' (decide (q0.k < Int.ofNat 1))) j'))
end
theorem WO' (W : World) (r : Rj) (dep : Nat) (F : HP) : wRun [(fNum, cNum)] (hCk 0 true false) [] W fCk [aggJ r, iv (Int.ofNat dep)] [] [] F = VT.leaf (i' 30) [] 1101 ((k61' r).a ((k72' r).a ((k73' r).a ((k63' r).a ((k74' r).a ((k75' r).a t')))))) := by kernel_rfl
noncomputable section
abbrev k76' (q0 : Rj) : Cnd := (f' (Wk (b' (decide (q0.k < Int.ofNat 1))) g'))
abbrev k77' (q0 : Rj) : Cnd := (f' (Wk (b' (decide (q0.k > Int.ofNat 6))) j'))
end
theorem WP' (W : World) (r : Rj) (dep : Nat) (F : HP) : wRun [(fNum, cNum)] (hCk 0 false true) [] W fCk [aggJ r, iv (Int.ofNat dep)] [] [] F = VT.leaf (i' 30) [] 1101 ((k61' r).a ((k72' r).a ((k73' r).a ((k63' r).a ((k74' r).a ((k76' r).a ((k77' r).a t'))))))) := by kernel_rfl
theorem bZ' (W : World) (p : Prop) (r : Rj) (dep : Nat) (F : HP) : wRun [(fNum, cNum)] (hCk 1 false false) [(fCk, 18, A2' fCk 18, lCkE p (kR 1 r) dep)] W fCk [aggJ (kR 1 r), iv (Int.ofNat dep)] [] [] F = VT.ite (r.n != Int.ofNat 0) (VT.leaf (i' 32) [] 1101 (((p' (true = true)).a (f' (i' 1 = i' 1))).a ((f' (Wk (b' false) g')).a ((f' (Wk (b' false) g')).a (((p' (true = true)).a (f' (s' r.t = s' r.t))).a (((p' (Few r.t.size)).a (f' (VW [s' r.t] [s' r.t]))).a ((f' (Wk (b' false) g')).a ((f' (Wk (b' false) g')).a ((f' (Wk (b' false) g')).a ((f' (Wk (b' true) j')).a (((p' (true = true)).a (f' (z' r.n = z' r.n))).a t'))))))))))) (VT.ite (!r.t.toList == []) (VT.leaf (i' 32) [] 1101 (((p' (true = true)).a (f' (i' 1 = i' 1))).a ((f' (Wk (b' false) g')).a ((f' (Wk (b' false) g')).a (((p' (true = true)).a (f' (s' r.t = s' r.t))).a (((p' (Few r.t.size)).a (f' (VW [s' r.t] [s' r.t]))).a ((f' (Wk (b' false) g')).a ((f' (Wk (b' false) g')).a ((f' (Wk (b' false) g')).a ((f' (Wk (b' true) j')).a (((p' (true = true)).a (f' (z' r.n = z' r.n))).a ((f' (Wk (b' false) g')).a ((f' (Wk (b' true) j')).a ((f' (Wk (b' true) j')).a (((p' (true = true)).a (f' (s' r.t = s' r.t))).a t'))))))))))))))) (VT.ite (decide (↑r.ll > Int.ofNat 0)) (VT.leaf (i' 32) [] 1101 (((p' (true = true)).a (f' (i' 1 = i' 1))).a ((f' (Wk (b' false) g')).a ((f' (Wk (b' false) g')).a (((p' (true = true)).a (f' (s' r.t = s' r.t))).a (((p' (Few r.t.size)).a (f' (VW [s' r.t] [s' r.t]))).a ((f' (Wk (b' false) g')).a ((f' (Wk (b' false) g')).a ((f' (Wk (b' false) g')).a ((f' (Wk (b' true) j')).a (((p' (true = true)).a (f' (z' r.n = z' r.n))).a ((f' (Wk (b' false) g')).a ((f' (Wk (b' true) j')).a ((f' (Wk (b' true) j')).a (((p' (true = true)).a (f' (s' r.t = s' r.t))).a ((f' (Wk (b' true) j')).a ((f' (true = true)).a t'))))))))))))))))) (VT.ite (decide (↑r.nl > Int.ofNat 0)) (VT.leaf (i' 32) [] 1101 (((p' (true = true)).a (f' (i' 1 = i' 1))).a ((f' (Wk (b' false) g')).a ((f' (Wk (b' false) g')).a (((p' (true = true)).a (f' (s' r.t = s' r.t))).a (((p' (Few r.t.size)).a (f' (VW [s' r.t] [s' r.t]))).a ((f' (Wk (b' false) g')).a ((f' (Wk (b' false) g')).a ((f' (Wk (b' false) g')).a ((f' (Wk (b' true) j')).a (((p' (true = true)).a (f' (z' r.n = z' r.n))).a ((f' (Wk (b' false) g')).a ((f' (Wk (b' true) j')).a ((f' (Wk (b' true) j')).a (((p' (true = true)).a (f' (s' r.t = s' r.t))).a ((f' (Wk (b' true) j')).a ((f' (true = true)).a ((f' (Wk (b' false) g')).a ((f' (Wk (b' true) j')).a ((f' (true = true)).a t')))))))))))))))))))) (VT.leaf (i' 0) [] 1102 (((p' (true = true)).a (f' (i' 1 = i' 1))).a ((f' (Wk (b' false) g')).a ((f' (Wk (b' false) g')).a (((p' (true = true)).a (f' (s' r.t = s' r.t))).a (((p' (Few r.t.size)).a (f' (VW [s' r.t] [s' r.t]))).a ((f' (Wk (b' false) g')).a ((f' (Wk (b' false) g')).a ((f' (Wk (b' false) g')).a ((f' (Wk (b' true) j')).a (((p' (true = true)).a (f' (z' r.n = z' r.n))).a ((f' (Wk (b' false) g')).a ((f' (Wk (b' true) j')).a ((f' (Wk (b' true) j')).a (((p' (true = true)).a (f' (s' r.t = s' r.t))).a ((f' (Wk (b' true) j')).a ((f' (true = true)).a ((f' (Wk (b' false) g')).a ((f' (Wk (b' true) j')).a ((f' (true = true)).a ((f' (true = true)).a ((p' ((fCk,18,A2' fCk 18,lCkE p (kR 1 r) dep).snd.snd.fst = (fCk,18,A2' fCk 18,lCkE p (kR 1 r) dep).snd.snd.fst)).a ((Cnd.p p).a ((p' (VW (AV.agg [i' 1,z' r.n,s' r.t,AV.v (Value.slice r.la r.ll r.lc),AV.v (Value.slice r.na r.nl r.nc)]::i' dep::AV.ptr 1100 0::u'::i' 0::i' 1::g'::z' (Int.ofNat (num (bts r.t)).fst)::AV.v (Value.bool (num (bts r.t)).snd)::AV.map 1101::u'::u'::u'::AV.ptr 1100 0::i' 1::i' 1::g'::g'::i' 1::g'::g'::AV.tuple [z' (Int.ofNat (num (bts r.t)).fst),AV.v (Value.bool (num (bts r.t)).snd)]::AV.ptr 1100 2::s' r.t::AV.tuple [z' (Int.ofNat (num (bts r.t)).fst),AV.v (Value.bool (num (bts r.t)).snd)]::z' (Int.ofNat (num (bts r.t)).fst)::AV.v (Value.bool (num (bts r.t)).snd)::g'::i' 1::g'::g'::i' 1::g'::g'::g'::g'::g'::u'::u'::g'::g'::i' 1::g'::g'::ru8 (g'::i' 1::j'::j'::AV.ptr 1100 1::z' r.n::b' (r.n != Int.ofNat 0)::b' (r.n != Int.ofNat 0)::i' 1::g'::g'::ru8 (u'::g'::i' 1::j'::j'::i' 1::j'::j'::j'::AV.ptr 1100 2::s' r.t::AV.v (Value.bool !r.t.toList == [])::AV.v (Value.bool !r.t.toList == [])::g'::j'::j'::AV.ptr 1100 3::AV.v (Value.slice r.la r.ll r.lc)::z' ↑r.ll::b' (decide (↑r.ll > Int.ofNat 0))::b' (decide (↑r.ll > Int.ofNat 0))::i' 1::g'::g'::ru4 (u'::u'::u'::g'::i' 1::j'::j'::AV.ptr 1100 4::AV.v (Value.slice r.na r.nl r.nc)::z' ↑r.nl::b' (decide (↑r.nl > Int.ofNat 0))::b' (decide (↑r.nl > Int.ofNat 0))::AV.map 1101::AV.ptr 1100 3::AV.v (Value.slice r.la r.ll r.lc)::z' ↑r.ll::i' 0::ru16 (ru8 (ru4 (u'::u'::[]))))))) (a'::i' dep::AV.ptr 1100 0::a'::a'::i' 1::a'::a'::a'::AV.map 1101::ra16 (ra16 (ra16 (ra16 (ra16 (ra16 (ra4 (a'::a'::a'::AV.v (Value.slice r.la r.ll r.lc)::i' r.ll::i' 0::ra16 (ra8 (ra4 (a'::a'::[]))))))))))))).a ((p' (OW (AO.cells [i' 1,z' r.n,s' r.t,AV.v (Value.slice r.la r.ll r.lc),AV.v (Value.slice r.na r.nl r.nc)] 50) (AO.cells [i' 1,z' r.n,s' r.t,AV.v (Value.slice r.la r.ll r.lc),AV.v (Value.slice r.na r.nl r.nc)] 50))).a (f' (OW (AO.map [] 0) (AO.map [] 0))))))))))))))))))))))))))))))) := by kernel_rfl
theorem bY' (W : World) (p : Prop) (r : Rj) (dep : Nat) (F : HP) : wRun [(fNum, cNum)] (hCk 2 false false) [(fCk, 18, A2' fCk 18, lCkE p (kR 2 r) dep)] W fCk [aggJ (kR 2 r), iv (Int.ofNat dep)] [] [] F = VT.ite (decide (r.n < Int.ofNat 0)) (VT.leaf (i' 32) [] 1101 (((p' (true = true)).a (f' (i' 2 = i' 2))).a ((f' (Wk (b' false) g')).a ((f' (Wk (b' false) g')).a (((p' (true = true)).a (f' (s' r.t = s' r.t))).a (((p' (Few r.t.size)).a (f' (VW [s' r.t] [s' r.t]))).a ((f' (Wk (b' false) g')).a ((f' (Wk (b' false) g')).a ((f' (Wk (b' true) j')).a (((p' (true = true)).a (f' (z' r.n = z' r.n))).a t')))))))))) (VT.ite (decide (r.n > Int.ofNat 1)) (VT.leaf (i' 32) [] 1101 (((p' (true = true)).a (f' (i' 2 = i' 2))).a ((f' (Wk (b' false) g')).a ((f' (Wk (b' false) g')).a (((p' (true = true)).a (f' (s' r.t = s' r.t))).a (((p' (Few r.t.size)).a (f' (VW [s' r.t] [s' r.t]))).a ((f' (Wk (b' false) g')).a ((f' (Wk (b' false) g')).a ((f' (Wk (b' true) j')).a (((p' (true = true)).a (f' (z' r.n = z' r.n))).a (((p' (true = true)).a (f' (z' r.n = z' r.n))).a t'))))))))))) (VT.ite (!r.t.toList == []) (VT.leaf (i' 32) [] 1101 (((p' (true = true)).a (f' (i' 2 = i' 2))).a ((f' (Wk (b' false) g')).a ((f' (Wk (b' false) g')).a (((p' (true = true)).a (f' (s' r.t = s' r.t))).a (((p' (Few r.t.size)).a (f' (VW [s' r.t] [s' r.t]))).a ((f' (Wk (b' false) g')).a ((f' (Wk (b' false) g')).a ((f' (Wk (b' true) j')).a (((p' (true = true)).a (f' (z' r.n = z' r.n))).a (((p' (true = true)).a (f' (z' r.n = z' r.n))).a ((f' (Wk (b' false) g')).a ((f' (Wk (b' false) g')).a ((f' (Wk (b' true) j')).a ((f' (Wk (b' true) j')).a (((p' (true = true)).a (f' (s' r.t = s' r.t))).a t')))))))))))))))) (VT.ite (decide (↑r.ll > Int.ofNat 0)) (VT.leaf (i' 32) [] 1101 (((p' (true = true)).a (f' (i' 2 = i' 2))).a ((f' (Wk (b' false) g')).a ((f' (Wk (b' false) g')).a (((p' (true = true)).a (f' (s' r.t = s' r.t))).a (((p' (Few r.t.size)).a (f' (VW [s' r.t] [s' r.t]))).a ((f' (Wk (b' false) g')).a ((f' (Wk (b' false) g')).a ((f' (Wk (b' true) j')).a (((p' (true = true)).a (f' (z' r.n = z' r.n))).a (((p' (true = true)).a (f' (z' r.n = z' r.n))).a ((f' (Wk (b' false) g')).a ((f' (Wk (b' false) g')).a ((f' (Wk (b' true) j')).a ((f' (Wk (b' true) j')).a (((p' (true = true)).a (f' (s' r.t = s' r.t))).a ((f' (Wk (b' true) j')).a ((f' (true = true)).a t')))))))))))))))))) (VT.ite (decide (↑r.nl > Int.ofNat 0)) (VT.leaf (i' 32) [] 1101 (((p' (true = true)).a (f' (i' 2 = i' 2))).a ((f' (Wk (b' false) g')).a ((f' (Wk (b' false) g')).a (((p' (true = true)).a (f' (s' r.t = s' r.t))).a (((p' (Few r.t.size)).a (f' (VW [s' r.t] [s' r.t]))).a ((f' (Wk (b' false) g')).a ((f' (Wk (b' false) g')).a ((f' (Wk (b' true) j')).a (((p' (true = true)).a (f' (z' r.n = z' r.n))).a (((p' (true = true)).a (f' (z' r.n = z' r.n))).a ((f' (Wk (b' false) g')).a ((f' (Wk (b' false) g')).a ((f' (Wk (b' true) j')).a ((f' (Wk (b' true) j')).a (((p' (true = true)).a (f' (s' r.t = s' r.t))).a ((f' (Wk (b' true) j')).a ((f' (true = true)).a ((f' (Wk (b' false) g')).a ((f' (Wk (b' true) j')).a ((f' (true = true)).a t'))))))))))))))))))))) (VT.leaf (i' 0) [] 1102 (((p' (true = true)).a (f' (i' 2 = i' 2))).a ((f' (Wk (b' false) g')).a ((f' (Wk (b' false) g')).a (((p' (true = true)).a (f' (s' r.t = s' r.t))).a (((p' (Few r.t.size)).a (f' (VW [s' r.t] [s' r.t]))).a ((f' (Wk (b' false) g')).a ((f' (Wk (b' false) g')).a ((f' (Wk (b' true) j')).a (((p' (true = true)).a (f' (z' r.n = z' r.n))).a (((p' (true = true)).a (f' (z' r.n = z' r.n))).a ((f' (Wk (b' false) g')).a ((f' (Wk (b' false) g')).a ((f' (Wk (b' true) j')).a ((f' (Wk (b' true) j')).a (((p' (true = true)).a (f' (s' r.t = s' r.t))).a ((f' (Wk (b' true) j')).a ((f' (true = true)).a ((f' (Wk (b' false) g')).a ((f' (Wk (b' true) j')).a ((f' (true = true)).a ((f' (true = true)).a ((p' ((fCk,18,A2' fCk 18,lCkE p (kR 2 r) dep).snd.snd.fst = (fCk,18,A2' fCk 18,lCkE p (kR 2 r) dep).snd.snd.fst)).a ((Cnd.p p).a ((p' (VW [AV.agg [i' 2,z' r.n,s' r.t,AV.v (Value.slice r.la r.ll r.lc),AV.v (Value.slice r.na r.nl r.nc)],i' dep,AV.ptr 1100 0,u',i' 0,i' 2,g',z' (Int.ofNat (num (bts r.t)).fst),AV.v (Value.bool (num (bts r.t)).snd),AV.map 1101,u',u',u',AV.ptr 1100 0,i' 2,i' 2,g',g',i' 2,g',g',AV.tuple [z' (Int.ofNat (num (bts r.t)).fst),AV.v (Value.bool (num (bts r.t)).snd)],AV.ptr 1100 2,s' r.t,AV.tuple [z' (Int.ofNat (num (bts r.t)).fst),AV.v (Value.bool (num (bts r.t)).snd)],z' (Int.ofNat (num (bts r.t)).fst),AV.v (Value.bool (num (bts r.t)).snd),g',i' 2,g',g',i' 2,g',g',g',g',g',u',u',g',g',i' 2,j',j',AV.ptr 1100 1,z' r.n,b' (decide (r.n < Int.ofNat 0)),g',AV.ptr 1100 1,z' r.n,b' (decide (r.n > Int.ofNat 1)),b' (decide (r.n > Int.ofNat 1)),b' (decide (r.n > Int.ofNat 1)),i' 2,g',g',u',u',u',g',i' 2,g',g',u',u',u',u',u',u',u',u',u',g',i' 2,j',j',i' 2,j',j',j',AV.ptr 1100 2,s' r.t,AV.v (Value.bool !r.t.toList == []),AV.v (Value.bool !r.t.toList == []),g',j',j',AV.ptr 1100 3,AV.v (Value.slice r.la r.ll r.lc),z' ↑r.ll,b' (decide (↑r.ll > Int.ofNat 0)),b' (decide (↑r.ll > Int.ofNat 0)),i' 2,g',g',u',u',u',u',u',u',u',g',i' 2,j',j',AV.ptr 1100 4,AV.v (Value.slice r.na r.nl r.nc),z' ↑r.nl,b' (decide (↑r.nl > Int.ofNat 0)),b' (decide (↑r.nl > Int.ofNat 0)),AV.map 1101,AV.ptr 1100 3,AV.v (Value.slice r.la r.ll r.lc),z' ↑r.ll,i' 0,u',u',u',u',u',u',u',u',u',u',u',u',u',u',u',u',u',u',u',u',u',u',u',u',u',u',u',u',u',u'] (a'::i' dep::AV.ptr 1100 0::a'::a'::i' 2::a'::a'::a'::AV.map 1101::ra16 (ra16 (ra16 (ra16 (ra16 (ra16 (ra4 (a'::a'::a'::AV.v (Value.slice r.la r.ll r.lc)::i' r.ll::i' 0::ra16 (ra8 (ra4 (a'::a'::[]))))))))))))).a ((p' (OW (AO.cells [i' 2,z' r.n,s' r.t,AV.v (Value.slice r.la r.ll r.lc),AV.v (Value.slice r.na r.nl r.nc)] 50) (AO.cells [i' 2,z' r.n,s' r.t,AV.v (Value.slice r.la r.ll r.lc),AV.v (Value.slice r.na r.nl r.nc)] 50))).a (f' (OW (AO.map [] 0) (AO.map [] 0))))))))))))))))))))))))))))))))) := by kernel_rfl
theorem bX' (W : World) (p : Prop) (r : Rj) (dep : Nat) (F : HP) : wRun [(fNum, cNum)] (hCk 3 false false) [(fCk, 18, A2' fCk 18, lCkE p (kR 3 r) dep)] W fCk [aggJ (kR 3 r), iv (Int.ofNat dep)] [] [] F = VT.ite (r.n != Int.ofNat 0) (VT.leaf (i' 32) [] 1101 (((p' (true = true)).a (f' (i' 3 = i' 3))).a ((f' (Wk (b' false) g')).a ((f' (Wk (b' false) g')).a (((p' (true = true)).a (f' (s' r.t = s' r.t))).a (((p' (Few r.t.size)).a (f' (VW [s' r.t] [s' r.t]))).a ((f' (Wk (b' false) g')).a ((f' (Wk (b' false) g')).a ((f' (Wk (b' false) g')).a ((f' (Wk (b' true) j')).a (((p' (true = true)).a (f' (z' r.n = z' r.n))).a t'))))))))))) (VT.ite (!(num (bts r.t)).snd) (VT.leaf (i' 32) [] 1101 (((p' (true = true)).a (f' (i' 3 = i' 3))).a ((f' (Wk (b' false) g')).a ((f' (Wk (b' false) g')).a (((p' (true = true)).a (f' (s' r.t = s' r.t))).a (((p' (Few r.t.size)).a (f' (VW [s' r.t] [s' r.t]))).a ((f' (Wk (b' false) g')).a ((f' (Wk (b' false) g')).a ((f' (Wk (b' false) g')).a ((f' (Wk (b' true) j')).a (((p' (true = true)).a (f' (z' r.n = z' r.n))).a ((f' (Wk (b' true) j')).a t')))))))))))) (VT.ite (Int.ofNat (num (bts r.t)).fst != ↑r.t.size) (VT.leaf (i' 32) [] 1101 (((p' (true = true)).a (f' (i' 3 = i' 3))).a ((f' (Wk (b' false) g')).a ((f' (Wk (b' false) g')).a (((p' (true = true)).a (f' (s' r.t = s' r.t))).a (((p' (Few r.t.size)).a (f' (VW [s' r.t] [s' r.t]))).a ((f' (Wk (b' false) g')).a ((f' (Wk (b' false) g')).a ((f' (Wk (b' false) g')).a ((f' (Wk (b' true) j')).a (((p' (true = true)).a (f' (z' r.n = z' r.n))).a ((f' (Wk (b' true) j')).a (((p' (true = true)).a (f' (s' r.t = s' r.t))).a t'))))))))))))) (VT.ite (decide (↑r.ll > Int.ofNat 0)) (VT.leaf (i' 32) [] 1101 (((p' (true = true)).a (f' (i' 3 = i' 3))).a ((f' (Wk (b' false) g')).a ((f' (Wk (b' false) g')).a (((p' (true = true)).a (f' (s' r.t = s' r.t))).a (((p' (Few r.t.size)).a (f' (VW [s' r.t] [s' r.t]))).a ((f' (Wk (b' false) g')).a ((f' (Wk (b' false) g')).a ((f' (Wk (b' false) g')).a ((f' (Wk (b' true) j')).a (((p' (true = true)).a (f' (z' r.n = z' r.n))).a ((f' (Wk (b' true) j')).a (((p' (true = true)).a (f' (s' r.t = s' r.t))).a ((f' (Wk (b' false) g')).a ((f' (Wk (b' true) j')).a ((f' (true = true)).a t')))))))))))))))) (VT.ite (decide (↑r.nl > Int.ofNat 0)) (VT.leaf (i' 32) [] 1101 (((p' (true = true)).a (f' (i' 3 = i' 3))).a ((f' (Wk (b' false) g')).a ((f' (Wk (b' false) g')).a (((p' (true = true)).a (f' (s' r.t = s' r.t))).a (((p' (Few r.t.size)).a (f' (VW [s' r.t] [s' r.t]))).a ((f' (Wk (b' false) g')).a ((f' (Wk (b' false) g')).a ((f' (Wk (b' false) g')).a ((f' (Wk (b' true) j')).a (((p' (true = true)).a (f' (z' r.n = z' r.n))).a ((f' (Wk (b' true) j')).a (((p' (true = true)).a (f' (s' r.t = s' r.t))).a ((f' (Wk (b' false) g')).a ((f' (Wk (b' true) j')).a ((f' (true = true)).a ((f' (Wk (b' false) g')).a ((f' (Wk (b' true) j')).a ((f' (true = true)).a t'))))))))))))))))))) (VT.leaf (i' 0) [] 1102 (((p' (true = true)).a (f' (i' 3 = i' 3))).a ((f' (Wk (b' false) g')).a ((f' (Wk (b' false) g')).a (((p' (true = true)).a (f' (s' r.t = s' r.t))).a (((p' (Few r.t.size)).a (f' (VW [s' r.t] [s' r.t]))).a ((f' (Wk (b' false) g')).a ((f' (Wk (b' false) g')).a ((f' (Wk (b' false) g')).a ((f' (Wk (b' true) j')).a (((p' (true = true)).a (f' (z' r.n = z' r.n))).a ((f' (Wk (b' true) j')).a (((p' (true = true)).a (f' (s' r.t = s' r.t))).a ((f' (Wk (b' false) g')).a ((f' (Wk (b' true) j')).a ((f' (true = true)).a ((f' (Wk (b' false) g')).a ((f' (Wk (b' true) j')).a ((f' (true = true)).a ((f' (true = true)).a ((p' ((fCk,18,A2' fCk 18,lCkE p (kR 3 r) dep).snd.snd.fst = (fCk,18,A2' fCk 18,lCkE p (kR 3 r) dep).snd.snd.fst)).a ((Cnd.p p).a ((p' (VW [AV.agg [i' 3,z' r.n,s' r.t,AV.v (Value.slice r.la r.ll r.lc),AV.v (Value.slice r.na r.nl r.nc)],i' dep,AV.ptr 1100 0,u',i' 0,i' 3,g',z' (Int.ofNat (num (bts r.t)).fst),AV.v (Value.bool (num (bts r.t)).snd),AV.map 1101,u',u',u',AV.ptr 1100 0,i' 3,i' 3,g',g',i' 3,g',g',AV.tuple [z' (Int.ofNat (num (bts r.t)).fst),AV.v (Value.bool (num (bts r.t)).snd)],AV.ptr 1100 2,s' r.t,AV.tuple [z' (Int.ofNat (num (bts r.t)).fst),AV.v (Value.bool (num (bts r.t)).snd)],z' (Int.ofNat (num (bts r.t)).fst),AV.v (Value.bool (num (bts r.t)).snd),g',i' 3,g',g',i' 3,g',g',g',g',g',u',u',g',g',i' 3,g',g',u',u',u',u',u',u',u',u',g',i' 3,j',j',AV.ptr 1100 1,z' r.n,b' (r.n != Int.ofNat 0),b' (r.n != Int.ofNat 0),i' 3,j',j',AV.v (Value.bool (num (bts r.t)).snd),AV.v (Value.bool !(num (bts r.t)).snd),g',z' (Int.ofNat (num (bts r.t)).fst),AV.ptr 1100 2,s' r.t,z' ↑r.t.size,b' (Int.ofNat (num (bts r.t)).fst != ↑r.t.size),b' (Int.ofNat (num (bts r.t)).fst != ↑r.t.size),b' (Int.ofNat (num (bts r.t)).fst != ↑r.t.size),i' 3,g',g',u',u',g',g',u',u',u',g',g',j',j',AV.ptr 1100 3,AV.v (Value.slice r.la r.ll r.lc),z' ↑r.ll,b' (decide (↑r.ll > Int.ofNat 0)),b' (decide (↑r.ll > Int.ofNat 0)),i' 3,g',g',u',u',u',u',u',u',u',g',i' 3,j',j',AV.ptr 1100 4,AV.v (Value.slice r.na r.nl r.nc),z' ↑r.nl,b' (decide (↑r.nl > Int.ofNat 0)),b' (decide (↑r.nl > Int.ofNat 0)),AV.map 1101,AV.ptr 1100 3,AV.v (Value.slice r.la r.ll r.lc),z' ↑r.ll,i' 0,u',u',u',u',u',u',u',u',u',u',u',u',u',u',u',u',u',u',u',u',u',u',u',u',u',u',u',u',u',u'] (a'::i' dep::AV.ptr 1100 0::a'::a'::i' 3::a'::a'::a'::AV.map 1101::ra16 (ra16 (ra16 (ra16 (ra16 (ra16 (ra4 (a'::a'::a'::AV.v (Value.slice r.la r.ll r.lc)::i' r.ll::i' 0::ra16 (ra8 (ra4 (a'::a'::[]))))))))))))).a ((p' (OW (AO.cells [i' 3,z' r.n,s' r.t,AV.v (Value.slice r.la r.ll r.lc),AV.v (Value.slice r.na r.nl r.nc)] 50) (AO.cells [i' 3,z' r.n,s' r.t,AV.v (Value.slice r.la r.ll r.lc),AV.v (Value.slice r.na r.nl r.nc)] 50))).a (f' (OW (AO.map [] 0) (AO.map [] 0))))))))))))))))))))))))))))))) := by kernel_rfl
theorem bW' (W : World) (p : Prop) (r : Rj) (dep : Nat) (F : HP) : wRun [(fNum, cNum)] (hCk 4 false false) [(fCk, 18, A2' fCk 18, lCkE p (kR 4 r) dep)] W fCk [aggJ (kR 4 r), iv (Int.ofNat dep)] [] [] F = VT.ite (r.n != Int.ofNat 0) (VT.leaf (i' 32) [] 1101 (((p' (true = true)).a (f' (i' 4 = i' 4))).a ((f' (Wk (b' false) g')).a ((f' (Wk (b' false) g')).a (((p' (true = true)).a (f' (s' r.t = s' r.t))).a (((p' (Few r.t.size)).a (f' (VW [s' r.t] [s' r.t]))).a ((f' (Wk (b' false) g')).a ((f' (Wk (b' false) g')).a ((f' (Wk (b' false) g')).a ((f' (Wk (b' true) j')).a (((p' (true = true)).a (f' (z' r.n = z' r.n))).a t'))))))))))) (VT.ite (decide (↑r.ll > Int.ofNat 0)) (VT.leaf (i' 32) [] 1101 (((p' (true = true)).a (f' (i' 4 = i' 4))).a ((f' (Wk (b' false) g')).a ((f' (Wk (b' false) g')).a (((p' (true = true)).a (f' (s' r.t = s' r.t))).a (((p' (Few r.t.size)).a (f' (VW [s' r.t] [s' r.t]))).a ((f' (Wk (b' false) g')).a ((f' (Wk (b' false) g')).a ((f' (Wk (b' false) g')).a ((f' (Wk (b' true) j')).a (((p' (true = true)).a (f' (z' r.n = z' r.n))).a ((f' (Wk (b' false) g')).a ((f' (Wk (b' true) j')).a ((f' (Wk (b' false) g')).a ((f' (Wk (b' true) j')).a ((f' (true = true)).a t')))))))))))))))) (VT.ite (decide (↑r.nl > Int.ofNat 0)) (VT.leaf (i' 32) [] 1101 (((p' (true = true)).a (f' (i' 4 = i' 4))).a ((f' (Wk (b' false) g')).a ((f' (Wk (b' false) g')).a (((p' (true = true)).a (f' (s' r.t = s' r.t))).a (((p' (Few r.t.size)).a (f' (VW [s' r.t] [s' r.t]))).a ((f' (Wk (b' false) g')).a ((f' (Wk (b' false) g')).a ((f' (Wk (b' false) g')).a ((f' (Wk (b' true) j')).a (((p' (true = true)).a (f' (z' r.n = z' r.n))).a ((f' (Wk (b' false) g')).a ((f' (Wk (b' true) j')).a ((f' (Wk (b' false) g')).a ((f' (Wk (b' true) j')).a ((f' (true = true)).a ((f' (Wk (b' false) g')).a ((f' (Wk (b' true) j')).a ((f' (true = true)).a t'))))))))))))))))))) (VT.leaf (i' 0) [] 1102 (((p' (true = true)).a (f' (i' 4 = i' 4))).a ((f' (Wk (b' false) g')).a ((f' (Wk (b' false) g')).a (((p' (true = true)).a (f' (s' r.t = s' r.t))).a (((p' (Few r.t.size)).a (f' (VW [s' r.t] [s' r.t]))).a ((f' (Wk (b' false) g')).a ((f' (Wk (b' false) g')).a ((f' (Wk (b' false) g')).a ((f' (Wk (b' true) j')).a (((p' (true = true)).a (f' (z' r.n = z' r.n))).a ((f' (Wk (b' false) g')).a ((f' (Wk (b' true) j')).a ((f' (Wk (b' false) g')).a ((f' (Wk (b' true) j')).a ((f' (true = true)).a ((f' (Wk (b' false) g')).a ((f' (Wk (b' true) j')).a ((f' (true = true)).a ((f' (true = true)).a ((p' ((fCk,18,A2' fCk 18,lCkE p (kR 4 r) dep).snd.snd.fst = (fCk,18,A2' fCk 18,lCkE p (kR 4 r) dep).snd.snd.fst)).a ((Cnd.p p).a ((p' (VW (AV.agg [i' 4,z' r.n,s' r.t,AV.v (Value.slice r.la r.ll r.lc),AV.v (Value.slice r.na r.nl r.nc)]::i' dep::AV.ptr 1100 0::u'::i' 0::i' 4::g'::z' (Int.ofNat (num (bts r.t)).fst)::AV.v (Value.bool (num (bts r.t)).snd)::AV.map 1101::u'::u'::u'::AV.ptr 1100 0::i' 4::i' 4::g'::g'::i' 4::g'::g'::AV.tuple [z' (Int.ofNat (num (bts r.t)).fst),AV.v (Value.bool (num (bts r.t)).snd)]::AV.ptr 1100 2::s' r.t::AV.tuple [z' (Int.ofNat (num (bts r.t)).fst),AV.v (Value.bool (num (bts r.t)).snd)]::z' (Int.ofNat (num (bts r.t)).fst)::AV.v (Value.bool (num (bts r.t)).snd)::g'::i' 4::g'::g'::i' 4::g'::g'::g'::g'::g'::u'::u'::g'::g'::i' 4::g'::g'::ru8 (g'::i' 4::j'::j'::AV.ptr 1100 1::z' r.n::b' (r.n != Int.ofNat 0)::b' (r.n != Int.ofNat 0)::i' 4::g'::g'::ru8 (u'::g'::i' 4::j'::j'::i' 4::g'::g'::g'::u'::u'::u'::g'::g'::j'::j'::AV.ptr 1100 3::AV.v (Value.slice r.la r.ll r.lc)::z' ↑r.ll::b' (decide (↑r.ll > Int.ofNat 0))::b' (decide (↑r.ll > Int.ofNat 0))::i' 4::g'::g'::ru4 (u'::u'::u'::g'::i' 4::j'::j'::AV.ptr 1100 4::AV.v (Value.slice r.na r.nl r.nc)::z' ↑r.nl::b' (decide (↑r.nl > Int.ofNat 0))::b' (decide (↑r.nl > Int.ofNat 0))::AV.map 1101::AV.ptr 1100 3::AV.v (Value.slice r.la r.ll r.lc)::z' ↑r.ll::i' 0::ru16 (ru8 (ru4 (u'::u'::[]))))))) (a'::i' dep::AV.ptr 1100 0::a'::a'::i' 4::a'::a'::a'::AV.map 1101::ra16 (ra16 (ra16 (ra16 (ra16 (ra16 (ra4 (a'::a'::a'::AV.v (Value.slice r.la r.ll r.lc)::i' r.ll::i' 0::ra16 (ra8 (ra4 (a'::a'::[]))))))))))))).a ((p' (OW (AO.cells [i' 4,z' r.n,s' r.t,AV.v (Value.slice r.la r.ll r.lc),AV.v (Value.slice r.na r.nl r.nc)] 50) (AO.cells [i' 4,z' r.n,s' r.t,AV.v (Value.slice r.la r.ll r.lc),AV.v (Value.slice r.na r.nl r.nc)] 50))).a (f' (OW (AO.map [] 0) (AO.map [] 0))))))))))))))))))))))))))))) := by kernel_rfl
theorem WV' (W : World) (p : Prop) (r : Rj) (dep : Nat) (F : HP) : wRun [(fNum, cNum)] (hCk 5 false false) [(fCk, 18, A2' fCk 18, lCkE p (kR 5 r) dep)] W fCk [aggJ (kR 5 r), iv (Int.ofNat dep)] [] [] F = VT.ite (decide (Int.ofNat dep > Int.ofNat 16)) (VT.leaf (i' 8) [] 1101 (((p' (true = true)).a (f' (i' 5 = i' 5))).a ((f' (Wk (b' true) j')).a (((p' (true = true)).a (f' (s' r.t = s' r.t))).a (((p' (Few r.t.size)).a (f' (VW [s' r.t] [s' r.t]))).a ((f' (Wk (b' false) g')).a ((f' (Wk (b' false) g')).a t'))))))) (VT.ite (r.n != Int.ofNat 0) (VT.leaf (i' 32) [] 1101 (((p' (true = true)).a (f' (i' 5 = i' 5))).a ((f' (Wk (b' true) j')).a (((p' (true = true)).a (f' (s' r.t = s' r.t))).a (((p' (Few r.t.size)).a (f' (VW [s' r.t] [s' r.t]))).a ((f' (Wk (b' false) g')).a ((f' (Wk (b' false) g')).a ((f' (Wk (b' false) g')).a ((f' (Wk (b' true) j')).a (((p' (true = true)).a (f' (z' r.n = z' r.n))).a t')))))))))) (VT.ite (!r.t.toList == []) (VT.leaf (i' 32) [] 1101 (((p' (true = true)).a (f' (i' 5 = i' 5))).a ((f' (Wk (b' true) j')).a (((p' (true = true)).a (f' (s' r.t = s' r.t))).a (((p' (Few r.t.size)).a (f' (VW [s' r.t] [s' r.t]))).a ((f' (Wk (b' false) g')).a ((f' (Wk (b' false) g')).a ((f' (Wk (b' false) g')).a ((f' (Wk (b' true) j')).a (((p' (true = true)).a (f' (z' r.n = z' r.n))).a ((f' (Wk (b' false) g')).a ((f' (Wk (b' true) j')).a ((f' (Wk (b' true) j')).a (((p' (true = true)).a (f' (s' r.t = s' r.t))).a t')))))))))))))) (VT.ite (decide (↑r.nl > Int.ofNat 0)) (VT.leaf (i' 32) [] 1101 (((p' (true = true)).a (f' (i' 5 = i' 5))).a ((f' (Wk (b' true) j')).a (((p' (true = true)).a (f' (s' r.t = s' r.t))).a (((p' (Few r.t.size)).a (f' (VW [s' r.t] [s' r.t]))).a ((f' (Wk (b' false) g')).a ((f' (Wk (b' false) g')).a ((f' (Wk (b' false) g')).a ((f' (Wk (b' true) j')).a (((p' (true = true)).a (f' (z' r.n = z' r.n))).a ((f' (Wk (b' false) g')).a ((f' (Wk (b' true) j')).a ((f' (Wk (b' true) j')).a (((p' (true = true)).a (f' (s' r.t = s' r.t))).a ((f' (Wk (b' false) g')).a ((f' (Wk (b' false) g')).a ((f' (Wk (b' true) j')).a ((f' (true = true)).a t')))))))))))))))))) (VT.leaf (i' 0) [] 1102 (((p' (true = true)).a (f' (i' 5 = i' 5))).a ((f' (Wk (b' true) j')).a (((p' (true = true)).a (f' (s' r.t = s' r.t))).a (((p' (Few r.t.size)).a (f' (VW [s' r.t] [s' r.t]))).a ((f' (Wk (b' false) g')).a ((f' (Wk (b' false) g')).a ((f' (Wk (b' false) g')).a ((f' (Wk (b' true) j')).a (((p' (true = true)).a (f' (z' r.n = z' r.n))).a ((f' (Wk (b' false) g')).a ((f' (Wk (b' true) j')).a ((f' (Wk (b' true) j')).a (((p' (true = true)).a (f' (s' r.t = s' r.t))).a ((f' (Wk (b' false) g')).a ((f' (Wk (b' false) g')).a ((f' (Wk (b' true) j')).a ((f' (true = true)).a ((f' (true = true)).a ((p' ((fCk,18,A2' fCk 18,lCkE p (kR 5 r) dep).snd.snd.fst = (fCk,18,A2' fCk 18,lCkE p (kR 5 r) dep).snd.snd.fst)).a ((Cnd.p p).a ((p' (VW (AV.agg [i' 5,z' r.n,s' r.t,AV.v (Value.slice r.la r.ll r.lc),AV.v (Value.slice r.na r.nl r.nc)]::i' dep::AV.ptr 1100 0::u'::i' 0::i' 5::j'::z' (Int.ofNat (num (bts r.t)).fst)::AV.v (Value.bool (num (bts r.t)).snd)::AV.map 1101::u'::u'::u'::AV.ptr 1100 0::i' 5::i' 5::j'::j'::u'::u'::j'::AV.tuple [z' (Int.ofNat (num (bts r.t)).fst),AV.v (Value.bool (num (bts r.t)).snd)]::AV.ptr 1100 2::s' r.t::AV.tuple [z' (Int.ofNat (num (bts r.t)).fst),AV.v (Value.bool (num (bts r.t)).snd)]::z' (Int.ofNat (num (bts r.t)).fst)::AV.v (Value.bool (num (bts r.t)).snd)::g'::i' 5::g'::g'::i' 5::g'::g'::g'::j'::j'::i' dep::b' (decide (Int.ofNat dep > Int.ofNat 16))::b' (decide (Int.ofNat dep > Int.ofNat 16))::g'::i' 5::g'::g'::ru8 (g'::i' 5::j'::j'::AV.ptr 1100 1::z' r.n::b' (r.n != Int.ofNat 0)::b' (r.n != Int.ofNat 0)::i' 5::g'::g'::ru8 (u'::g'::i' 5::j'::j'::i' 5::j'::j'::j'::AV.ptr 1100 2::s' r.t::AV.v (Value.bool !r.t.toList == [])::AV.v (Value.bool !r.t.toList == [])::j'::g'::g'::ru4 (g'::i' 5::g'::g'::ru4 (u'::u'::u'::g'::i' 5::j'::j'::AV.ptr 1100 4::AV.v (Value.slice r.na r.nl r.nc)::z' ↑r.nl::b' (decide (↑r.nl > Int.ofNat 0))::b' (decide (↑r.nl > Int.ofNat 0))::AV.map 1101::AV.ptr 1100 3::AV.v (Value.slice r.la r.ll r.lc)::z' ↑r.ll::i' 0::ru16 (ru8 (ru4 (u'::u'::[])))))))) (a'::i' dep::AV.ptr 1100 0::a'::a'::i' 5::a'::a'::a'::AV.map 1101::ra16 (ra16 (ra16 (ra16 (ra16 (ra16 (ra4 (a'::a'::a'::AV.v (Value.slice r.la r.ll r.lc)::i' r.ll::i' 0::ra16 (ra8 (ra4 (a'::a'::[]))))))))))))).a ((p' (OW (AO.cells [i' 5,z' r.n,s' r.t,AV.v (Value.slice r.la r.ll r.lc),AV.v (Value.slice r.na r.nl r.nc)] 50) (AO.cells [i' 5,z' r.n,s' r.t,AV.v (Value.slice r.la r.ll r.lc),AV.v (Value.slice r.na r.nl r.nc)] 50))).a (f' (OW (AO.map [] 0) (AO.map [] 0))))))))))))))))))))))))))))) := by kernel_rfl
theorem WW' (W : World) (p : Prop) (r : Rj) (dep : Nat) (e : Int) (F : HP) : wRun [(fNum, cNum)] (hCk 5 false false) [(fCk, 18, A2' fCk 18, lCkR p (kR 5 r) dep e)] W fCk [aggJ (kR 5 r), iv (Int.ofNat dep)] [] [] F = VT.ite (decide (Int.ofNat dep > Int.ofNat 16)) (VT.leaf (i' 8) [] 1101 (((p' (true = true)).a (f' (i' 5 = i' 5))).a ((f' (Wk (b' true) j')).a (((p' (true = true)).a (f' (s' r.t = s' r.t))).a (((p' (Few r.t.size)).a (f' (VW [s' r.t] [s' r.t]))).a ((f' (Wk (b' false) g')).a ((f' (Wk (b' false) g')).a t'))))))) (VT.ite (r.n != Int.ofNat 0) (VT.leaf (i' 32) [] 1101 (((p' (true = true)).a (f' (i' 5 = i' 5))).a ((f' (Wk (b' true) j')).a (((p' (true = true)).a (f' (s' r.t = s' r.t))).a (((p' (Few r.t.size)).a (f' (VW [s' r.t] [s' r.t]))).a ((f' (Wk (b' false) g')).a ((f' (Wk (b' false) g')).a ((f' (Wk (b' false) g')).a ((f' (Wk (b' true) j')).a (((p' (true = true)).a (f' (z' r.n = z' r.n))).a t')))))))))) (VT.ite (!r.t.toList == []) (VT.leaf (i' 32) [] 1101 (((p' (true = true)).a (f' (i' 5 = i' 5))).a ((f' (Wk (b' true) j')).a (((p' (true = true)).a (f' (s' r.t = s' r.t))).a (((p' (Few r.t.size)).a (f' (VW [s' r.t] [s' r.t]))).a ((f' (Wk (b' false) g')).a ((f' (Wk (b' false) g')).a ((f' (Wk (b' false) g')).a ((f' (Wk (b' true) j')).a (((p' (true = true)).a (f' (z' r.n = z' r.n))).a ((f' (Wk (b' false) g')).a ((f' (Wk (b' true) j')).a ((f' (Wk (b' true) j')).a (((p' (true = true)).a (f' (s' r.t = s' r.t))).a t')))))))))))))) (VT.ite (decide (↑r.nl > Int.ofNat 0)) (VT.leaf (i' 32) [] 1101 (((p' (true = true)).a (f' (i' 5 = i' 5))).a ((f' (Wk (b' true) j')).a (((p' (true = true)).a (f' (s' r.t = s' r.t))).a (((p' (Few r.t.size)).a (f' (VW [s' r.t] [s' r.t]))).a ((f' (Wk (b' false) g')).a ((f' (Wk (b' false) g')).a ((f' (Wk (b' false) g')).a ((f' (Wk (b' true) j')).a (((p' (true = true)).a (f' (z' r.n = z' r.n))).a ((f' (Wk (b' false) g')).a ((f' (Wk (b' true) j')).a ((f' (Wk (b' true) j')).a (((p' (true = true)).a (f' (s' r.t = s' r.t))).a ((f' (Wk (b' false) g')).a ((f' (Wk (b' false) g')).a ((f' (Wk (b' true) j')).a ((f' (true = true)).a t')))))))))))))))))) (VT.leaf (z' e) [] 1102 (((p' (true = true)).a (f' (i' 5 = i' 5))).a ((f' (Wk (b' true) j')).a (((p' (true = true)).a (f' (s' r.t = s' r.t))).a (((p' (Few r.t.size)).a (f' (VW [s' r.t] [s' r.t]))).a ((f' (Wk (b' false) g')).a ((f' (Wk (b' false) g')).a ((f' (Wk (b' false) g')).a ((f' (Wk (b' true) j')).a (((p' (true = true)).a (f' (z' r.n = z' r.n))).a ((f' (Wk (b' false) g')).a ((f' (Wk (b' true) j')).a ((f' (Wk (b' true) j')).a (((p' (true = true)).a (f' (s' r.t = s' r.t))).a ((f' (Wk (b' false) g')).a ((f' (Wk (b' false) g')).a ((f' (Wk (b' true) j')).a ((f' (true = true)).a ((f' (true = true)).a ((p' ((fCk,18,A2' fCk 18,lCkR p (kR 5 r) dep e).snd.snd.fst = (fCk,18,A2' fCk 18,lCkR p (kR 5 r) dep e).snd.snd.fst)).a ((Cnd.p p).a ((p' (VW (AV.agg [i' 5,z' r.n,s' r.t,AV.v (Value.slice r.la r.ll r.lc),AV.v (Value.slice r.na r.nl r.nc)]::i' dep::AV.ptr 1100 0::u'::i' 0::i' 5::j'::z' (Int.ofNat (num (bts r.t)).fst)::AV.v (Value.bool (num (bts r.t)).snd)::AV.map 1101::u'::u'::u'::AV.ptr 1100 0::i' 5::i' 5::j'::j'::u'::u'::j'::AV.tuple [z' (Int.ofNat (num (bts r.t)).fst),AV.v (Value.bool (num (bts r.t)).snd)]::AV.ptr 1100 2::s' r.t::AV.tuple [z' (Int.ofNat (num (bts r.t)).fst),AV.v (Value.bool (num (bts r.t)).snd)]::z' (Int.ofNat (num (bts r.t)).fst)::AV.v (Value.bool (num (bts r.t)).snd)::g'::i' 5::g'::g'::i' 5::g'::g'::g'::j'::j'::i' dep::b' (decide (Int.ofNat dep > Int.ofNat 16))::b' (decide (Int.ofNat dep > Int.ofNat 16))::g'::i' 5::g'::g'::ru8 (g'::i' 5::j'::j'::AV.ptr 1100 1::z' r.n::b' (r.n != Int.ofNat 0)::b' (r.n != Int.ofNat 0)::i' 5::g'::g'::ru8 (u'::g'::i' 5::j'::j'::i' 5::j'::j'::j'::AV.ptr 1100 2::s' r.t::AV.v (Value.bool !r.t.toList == [])::AV.v (Value.bool !r.t.toList == [])::j'::g'::g'::ru4 (g'::i' 5::g'::g'::ru4 (u'::u'::u'::g'::i' 5::j'::j'::AV.ptr 1100 4::AV.v (Value.slice r.na r.nl r.nc)::z' ↑r.nl::b' (decide (↑r.nl > Int.ofNat 0))::b' (decide (↑r.nl > Int.ofNat 0))::AV.map 1101::AV.ptr 1100 3::AV.v (Value.slice r.la r.ll r.lc)::z' ↑r.ll::i' 0::ru16 (ru8 (ru4 (u'::u'::[])))))))) (a'::i' dep::AV.ptr 1100 0::a'::a'::i' 5::a'::a'::a'::AV.map 1101::ra16 (ra16 (ra16 (ra16 (ra16 (ra16 (ra4 (a'::a'::a'::AV.v (Value.slice r.la r.ll r.lc)::i' r.ll::i' 0::ra16 (ra8 (ra4 (a'::a'::[]))))))))))))).a ((p' (OW (AO.cells [i' 5,z' r.n,s' r.t,AV.v (Value.slice r.la r.ll r.lc),AV.v (Value.slice r.na r.nl r.nc)] 50) (AO.cells [i' 5,z' r.n,s' r.t,AV.v (Value.slice r.la r.ll r.lc),AV.v (Value.slice r.na r.nl r.nc)] 50))).a (f' (OW (AO.map [] 0) (AO.map [] 0))))))))))))))))))))))))))))) := by kernel_rfl
theorem WQ' (W : World) (p : Prop) (r : Rj) (dep : Nat) (F : HP) : wRun [(fNum, cNum)] (hCk 6 false false) [(fCk, 18, A2' fCk 18, lCkE p (kR 6 r) dep)] W fCk [aggJ (kR 6 r), iv (Int.ofNat dep)] [] [] F = VT.ite (decide (Int.ofNat dep > Int.ofNat 16)) (VT.leaf (i' 8) [] 1101 (((p' (true = true)).a (f' (i' 6 = i' 6))).a ((f' (Wk (b' false) g')).a ((f' (Wk (b' true) j')).a (((p' (true = true)).a (f' (s' r.t = s' r.t))).a (((p' (Few r.t.size)).a (f' (VW [s' r.t] [s' r.t]))).a ((f' (Wk (b' false) g')).a ((f' (Wk (b' false) g')).a t')))))))) (VT.ite (r.n != Int.ofNat 0) (VT.leaf (i' 32) [] 1101 (((p' (true = true)).a (f' (i' 6 = i' 6))).a ((f' (Wk (b' false) g')).a ((f' (Wk (b' true) j')).a (((p' (true = true)).a (f' (s' r.t = s' r.t))).a (((p' (Few r.t.size)).a (f' (VW [s' r.t] [s' r.t]))).a ((f' (Wk (b' false) g')).a ((f' (Wk (b' false) g')).a ((f' (Wk (b' false) g')).a ((f' (Wk (b' true) j')).a (((p' (true = true)).a (f' (z' r.n = z' r.n))).a t'))))))))))) (VT.ite (!r.t.toList == []) (VT.leaf (i' 32) [] 1101 (((p' (true = true)).a (f' (i' 6 = i' 6))).a ((f' (Wk (b' false) g')).a ((f' (Wk (b' true) j')).a (((p' (true = true)).a (f' (s' r.t = s' r.t))).a (((p' (Few r.t.size)).a (f' (VW [s' r.t] [s' r.t]))).a ((f' (Wk (b' false) g')).a ((f' (Wk (b' false) g')).a ((f' (Wk (b' false) g')).a ((f' (Wk (b' true) j')).a (((p' (true = true)).a (f' (z' r.n = z' r.n))).a ((f' (Wk (b' false) g')).a ((f' (Wk (b' true) j')).a ((f' (Wk (b' true) j')).a (((p' (true = true)).a (f' (s' r.t = s' r.t))).a t'))))))))))))))) (VT.ite ((↑r.nl : Int) != ↑r.ll) (VT.leaf (i' 32) [] 1101 (((p' (true = true)).a (f' (i' 6 = i' 6))).a ((f' (Wk (b' false) g')).a ((f' (Wk (b' true) j')).a (((p' (true = true)).a (f' (s' r.t = s' r.t))).a (((p' (Few r.t.size)).a (f' (VW [s' r.t] [s' r.t]))).a ((f' (Wk (b' false) g')).a ((f' (Wk (b' false) g')).a ((f' (Wk (b' false) g')).a ((f' (Wk (b' true) j')).a (((p' (true = true)).a (f' (z' r.n = z' r.n))).a ((f' (Wk (b' false) g')).a ((f' (Wk (b' true) j')).a ((f' (Wk (b' true) j')).a (((p' (true = true)).a (f' (s' r.t = s' r.t))).a ((f' (Wk (b' false) g')).a ((f' (Wk (b' true) j')).a ((f' (true = true)).a ((f' (true = true)).a t'))))))))))))))))))) (VT.leaf (i' 0) [] 1102 (((p' (true = true)).a (f' (i' 6 = i' 6))).a ((f' (Wk (b' false) g')).a ((f' (Wk (b' true) j')).a (((p' (true = true)).a (f' (s' r.t = s' r.t))).a (((p' (Few r.t.size)).a (f' (VW [s' r.t] [s' r.t]))).a ((f' (Wk (b' false) g')).a ((f' (Wk (b' false) g')).a ((f' (Wk (b' false) g')).a ((f' (Wk (b' true) j')).a (((p' (true = true)).a (f' (z' r.n = z' r.n))).a ((f' (Wk (b' false) g')).a ((f' (Wk (b' true) j')).a ((f' (Wk (b' true) j')).a (((p' (true = true)).a (f' (s' r.t = s' r.t))).a ((f' (Wk (b' false) g')).a ((f' (Wk (b' true) j')).a ((f' (true = true)).a ((f' (true = true)).a ((f' (Wk (b' false) g')).a ((f' (true = true)).a ((p' ((fCk,18,A2' fCk 18,lCkE p (kR 6 r) dep).snd.snd.fst = (fCk,18,A2' fCk 18,lCkE p (kR 6 r) dep).snd.snd.fst)).a ((Cnd.p p).a ((p' (VW (AV.agg [i' 6,z' r.n,s' r.t,AV.v (Value.slice r.la r.ll r.lc),AV.v (Value.slice r.na r.nl r.nc)]::i' dep::AV.ptr 1100 0::u'::i' 0::i' 6::j'::z' (Int.ofNat (num (bts r.t)).fst)::AV.v (Value.bool (num (bts r.t)).snd)::AV.map 1101::u'::u'::u'::AV.ptr 1100 0::i' 6::i' 6::g'::g'::i' 6::j'::j'::AV.tuple [z' (Int.ofNat (num (bts r.t)).fst),AV.v (Value.bool (num (bts r.t)).snd)]::AV.ptr 1100 2::s' r.t::AV.tuple [z' (Int.ofNat (num (bts r.t)).fst),AV.v (Value.bool (num (bts r.t)).snd)]::z' (Int.ofNat (num (bts r.t)).fst)::AV.v (Value.bool (num (bts r.t)).snd)::g'::i' 6::g'::g'::i' 6::g'::g'::g'::j'::j'::i' dep::b' (decide (Int.ofNat dep > Int.ofNat 16))::b' (decide (Int.ofNat dep > Int.ofNat 16))::g'::i' 6::g'::g'::ru8 (g'::i' 6::j'::j'::AV.ptr 1100 1::z' r.n::b' (r.n != Int.ofNat 0)::b' (r.n != Int.ofNat 0)::i' 6::g'::g'::ru8 (u'::g'::i' 6::j'::j'::i' 6::j'::j'::j'::AV.ptr 1100 2::s' r.t::AV.v (Value.bool !r.t.toList == [])::AV.v (Value.bool !r.t.toList == [])::j'::g'::g'::ru4 (g'::i' 6::j'::j'::AV.ptr 1100 4::AV.v (Value.slice r.na r.nl r.nc)::z' ↑r.nl::AV.ptr 1100 3::AV.v (Value.slice r.la r.ll r.lc)::z' ↑r.ll::b' ((↑r.nl : Int) != ↑r.ll)::b' ((↑r.nl : Int) != ↑r.ll)::i' 6::g'::g'::ru4 (g'::AV.map 1101::AV.ptr 1100 3::AV.v (Value.slice r.la r.ll r.lc)::z' ↑r.ll::i' 0::ru16 (ru8 (ru4 (u'::u'::[])))))))) (a'::i' dep::AV.ptr 1100 0::a'::a'::i' 6::a'::a'::a'::AV.map 1101::ra16 (ra16 (ra16 (ra16 (ra16 (ra16 (ra4 (a'::a'::a'::AV.v (Value.slice r.la r.ll r.lc)::i' r.ll::i' 0::ra16 (ra8 (ra4 (a'::a'::[]))))))))))))).a ((p' (OW (AO.cells [i' 6,z' r.n,s' r.t,AV.v (Value.slice r.la r.ll r.lc),AV.v (Value.slice r.na r.nl r.nc)] 50) (AO.cells [i' 6,z' r.n,s' r.t,AV.v (Value.slice r.la r.ll r.lc),AV.v (Value.slice r.na r.nl r.nc)] 50))).a (f' (OW (AO.map [] 0) (AO.map [] 0))))))))))))))))))))))))))))))) := by kernel_rfl
theorem WR' (W : World) (p : Prop) (r : Rj) (dep : Nat) (e : Int) (F : HP) : wRun [(fNum, cNum)] (hCk 6 false false) [(fCk, 18, A2' fCk 18, lCkR p (kR 6 r) dep e)] W fCk [aggJ (kR 6 r), iv (Int.ofNat dep)] [] [] F = VT.ite (decide (Int.ofNat dep > Int.ofNat 16)) (VT.leaf (i' 8) [] 1101 (((p' (true = true)).a (f' (i' 6 = i' 6))).a ((f' (Wk (b' false) g')).a ((f' (Wk (b' true) j')).a (((p' (true = true)).a (f' (s' r.t = s' r.t))).a (((p' (Few r.t.size)).a (f' (VW [s' r.t] [s' r.t]))).a ((f' (Wk (b' false) g')).a ((f' (Wk (b' false) g')).a t')))))))) (VT.ite (r.n != Int.ofNat 0) (VT.leaf (i' 32) [] 1101 (((p' (true = true)).a (f' (i' 6 = i' 6))).a ((f' (Wk (b' false) g')).a ((f' (Wk (b' true) j')).a (((p' (true = true)).a (f' (s' r.t = s' r.t))).a (((p' (Few r.t.size)).a (f' (VW [s' r.t] [s' r.t]))).a ((f' (Wk (b' false) g')).a ((f' (Wk (b' false) g')).a ((f' (Wk (b' false) g')).a ((f' (Wk (b' true) j')).a (((p' (true = true)).a (f' (z' r.n = z' r.n))).a t'))))))))))) (VT.ite (!r.t.toList == []) (VT.leaf (i' 32) [] 1101 (((p' (true = true)).a (f' (i' 6 = i' 6))).a ((f' (Wk (b' false) g')).a ((f' (Wk (b' true) j')).a (((p' (true = true)).a (f' (s' r.t = s' r.t))).a (((p' (Few r.t.size)).a (f' (VW [s' r.t] [s' r.t]))).a ((f' (Wk (b' false) g')).a ((f' (Wk (b' false) g')).a ((f' (Wk (b' false) g')).a ((f' (Wk (b' true) j')).a (((p' (true = true)).a (f' (z' r.n = z' r.n))).a ((f' (Wk (b' false) g')).a ((f' (Wk (b' true) j')).a ((f' (Wk (b' true) j')).a (((p' (true = true)).a (f' (s' r.t = s' r.t))).a t'))))))))))))))) (VT.ite ((↑r.nl : Int) != ↑r.ll) (VT.leaf (i' 32) [] 1101 (((p' (true = true)).a (f' (i' 6 = i' 6))).a ((f' (Wk (b' false) g')).a ((f' (Wk (b' true) j')).a (((p' (true = true)).a (f' (s' r.t = s' r.t))).a (((p' (Few r.t.size)).a (f' (VW [s' r.t] [s' r.t]))).a ((f' (Wk (b' false) g')).a ((f' (Wk (b' false) g')).a ((f' (Wk (b' false) g')).a ((f' (Wk (b' true) j')).a (((p' (true = true)).a (f' (z' r.n = z' r.n))).a ((f' (Wk (b' false) g')).a ((f' (Wk (b' true) j')).a ((f' (Wk (b' true) j')).a (((p' (true = true)).a (f' (s' r.t = s' r.t))).a ((f' (Wk (b' false) g')).a ((f' (Wk (b' true) j')).a ((f' (true = true)).a ((f' (true = true)).a t'))))))))))))))))))) (VT.leaf (z' e) [] 1102 (((p' (true = true)).a (f' (i' 6 = i' 6))).a ((f' (Wk (b' false) g')).a ((f' (Wk (b' true) j')).a (((p' (true = true)).a (f' (s' r.t = s' r.t))).a (((p' (Few r.t.size)).a (f' (VW [s' r.t] [s' r.t]))).a ((f' (Wk (b' false) g')).a ((f' (Wk (b' false) g')).a ((f' (Wk (b' false) g')).a ((f' (Wk (b' true) j')).a (((p' (true = true)).a (f' (z' r.n = z' r.n))).a ((f' (Wk (b' false) g')).a ((f' (Wk (b' true) j')).a ((f' (Wk (b' true) j')).a (((p' (true = true)).a (f' (s' r.t = s' r.t))).a ((f' (Wk (b' false) g')).a ((f' (Wk (b' true) j')).a ((f' (true = true)).a ((f' (true = true)).a ((f' (Wk (b' false) g')).a ((f' (true = true)).a ((p' ((fCk,18,A2' fCk 18,lCkR p (kR 6 r) dep e).snd.snd.fst = (fCk,18,A2' fCk 18,lCkR p (kR 6 r) dep e).snd.snd.fst)).a ((Cnd.p p).a ((p' (VW (AV.agg [i' 6,z' r.n,s' r.t,AV.v (Value.slice r.la r.ll r.lc),AV.v (Value.slice r.na r.nl r.nc)]::i' dep::AV.ptr 1100 0::u'::i' 0::i' 6::j'::z' (Int.ofNat (num (bts r.t)).fst)::AV.v (Value.bool (num (bts r.t)).snd)::AV.map 1101::u'::u'::u'::AV.ptr 1100 0::i' 6::i' 6::g'::g'::i' 6::j'::j'::AV.tuple [z' (Int.ofNat (num (bts r.t)).fst),AV.v (Value.bool (num (bts r.t)).snd)]::AV.ptr 1100 2::s' r.t::AV.tuple [z' (Int.ofNat (num (bts r.t)).fst),AV.v (Value.bool (num (bts r.t)).snd)]::z' (Int.ofNat (num (bts r.t)).fst)::AV.v (Value.bool (num (bts r.t)).snd)::g'::i' 6::g'::g'::i' 6::g'::g'::g'::j'::j'::i' dep::b' (decide (Int.ofNat dep > Int.ofNat 16))::b' (decide (Int.ofNat dep > Int.ofNat 16))::g'::i' 6::g'::g'::ru8 (g'::i' 6::j'::j'::AV.ptr 1100 1::z' r.n::b' (r.n != Int.ofNat 0)::b' (r.n != Int.ofNat 0)::i' 6::g'::g'::ru8 (u'::g'::i' 6::j'::j'::i' 6::j'::j'::j'::AV.ptr 1100 2::s' r.t::AV.v (Value.bool !r.t.toList == [])::AV.v (Value.bool !r.t.toList == [])::j'::g'::g'::ru4 (g'::i' 6::j'::j'::AV.ptr 1100 4::AV.v (Value.slice r.na r.nl r.nc)::z' ↑r.nl::AV.ptr 1100 3::AV.v (Value.slice r.la r.ll r.lc)::z' ↑r.ll::b' ((↑r.nl : Int) != ↑r.ll)::b' ((↑r.nl : Int) != ↑r.ll)::i' 6::g'::g'::ru4 (g'::AV.map 1101::AV.ptr 1100 3::AV.v (Value.slice r.la r.ll r.lc)::z' ↑r.ll::i' 0::ru16 (ru8 (ru4 (u'::u'::[])))))))) (a'::i' dep::AV.ptr 1100 0::a'::a'::i' 6::a'::a'::a'::AV.map 1101::ra16 (ra16 (ra16 (ra16 (ra16 (ra16 (ra4 (a'::a'::a'::AV.v (Value.slice r.la r.ll r.lc)::i' r.ll::i' 0::ra16 (ra8 (ra4 (a'::a'::[]))))))))))))).a ((p' (OW (AO.cells [i' 6,z' r.n,s' r.t,AV.v (Value.slice r.la r.ll r.lc),AV.v (Value.slice r.na r.nl r.nc)] 50) (AO.cells [i' 6,z' r.n,s' r.t,AV.v (Value.slice r.la r.ll r.lc),AV.v (Value.slice r.na r.nl r.nc)] 50))).a (f' (OW (AO.map [] 0) (AO.map [] 0))))))))))))))))))))))))))))))) := by kernel_rfl
end
def tt (b : Bool) (e : Int) (r : Int) : Int := if b then e else r
def txtN (t : ByteArray) : Bool := !(t.toList == [])
def posQ (n : Nat) : Bool := decide ((n : Int) > Int.ofNat 0)
def nzQ (n : Int) : Bool := n != Int.ofNat 0
def BF' (dep : Nat) : Bool := decide (Int.ofNat dep > Int.ofNat 16)
def errK (K : Nat) (n : Int) (t : ByteArray) (ll nl dep : Nat) : Int := match K with
 | 1 => tt (nzQ n) 32 (tt (txtN t) 32 (tt (posQ ll) 32 (tt (posQ nl) 32 0)))
 | 2 => tt (decide (n < Int.ofNat 0)) 32 (tt (decide (n > Int.ofNat 1)) 32 (tt (txtN t) 32 (tt (posQ ll) 32 (tt (posQ nl) 32 0))))
 | 3 => tt (nzQ n) 32 (tt (!(num (bts t)).2) 32 (tt (Int.ofNat (num (bts t)).1 != (t.size : Int)) 32 (tt (posQ ll) 32 (tt (posQ nl) 32 0))))
 | 4 => tt (nzQ n) 32 (tt (posQ ll) 32 (tt (posQ nl) 32 0))
 | 5 => tt (BF' dep) 8 (tt (nzQ n) 32 (tt (txtN t) 32 (tt (posQ nl) 32 0)))
 | 6 => tt (BF' dep) 8 (tt (nzQ n) 32 (tt (txtN t) 32 (tt ((nl : Int) != (ll : Int)) 32 0)))
 | _ => 30
def errT (v : Jv) (dep : Nat) : Int := if v.kind < 1 then 30 else if 6 < v.kind then 30 else errK v.kind.toNat v.num v.text v.list.length v.names.length dep
def hasN (l : List ByteArray) (k : ByteArray) : Bool := l.any fun a => decide (k = a)
def errL (f : Jv → Int) (obj : Bool) (names : List ByteArray) : Nat → List Jv → Int
 | _, [] => 0
 | j, x :: xs => if (obj && hasN (names.take j) (names.getD j nil0)) = true then 5 else if f x ≠ 0 then f x else errL f obj names (j + 1) xs
def errJ : Nat → Jv → Nat → Int
 | 0, _, _ => 0
 | L + 1, v, dep => if errT v dep ≠ 0 then errT v dep else errL (fun x => errJ L x (dep + 1)) (v.kind == 6) v.names 0 v.list
theorem tt_0 {b : Bool} {e r : Int} (he : e ≠ 0) (h : tt b e r = 0) : b = false ∧ r = 0 := by
 cases b with
 | true => exact absurd h he
 | false => exact ⟨rfl, h⟩
def wJ : Nat → Jv → Nat
 | 0, _ => 0
 | L + 1, v => 1 + v.text.size + (v.names.map fun n => n.size + 1).sum + (v.list.map (wJ L)).sum
theorem ZM' {l : List Nat} {n : Nat} (h : n ∈ l) : n ≤ l.sum := by
 induction l with
 | nil => cases h
 | cons a l ih =>
  rw [List.sum_cons]
  rcases List.mem_cons.1 h with rfl | h
  ·omega
  ·have := ih h; omega
theorem YD' {L : Nat} {v u : Jv} (h : u ∈ v.list) : wJ L u + 1 ≤ wJ (L + 1) v := by
 have := ZM' (List.mem_map.2 ⟨u, h, rfl⟩ : wJ L u ∈ v.list.map (wJ L))
 show wJ L u + 1 ≤ 1 + v.text.size + (v.names.map fun n => n.size + 1).sum + (v.list.map (wJ L)).sum
 omega
theorem SE' (L : Nat) (v : Jv) : v.text.size + 1 ≤ wJ (L + 1) v := by
 show v.text.size + 1 ≤ 1 + v.text.size + (v.names.map fun n => n.size + 1).sum + (v.list.map (wJ L)).sum
 omega
def mOf : Nat → List ByteArray → KMap ByteArray Int
 | _, [] => []
 | i, a :: l => (a, 1, i) :: mOf (i + 1) l
theorem L2' : ∀ (l : List ByteArray) (i : Nat) (a : ByteArray), mOf i (l ++ [a]) = mOf i l ++ [(a, 1, i + l.length)]
 | [], i, a => rfl
 | b :: l, i, a => by
  show (b, 1, i) :: mOf (i + 1) (l ++ [a]) = _
  rw [L2' l (i + 1) a, List.length_cons]
  show _ = (b, 1, i) :: (mOf (i + 1) l ++ _)
  rw [show i + 1 + l.length = i + (l.length + 1) by omega]
theorem NL' (k : ByteArray) : ∀ (l : List ByteArray) (i : Nat), C4' k (mOf i l) = if hasN l k = true then some 1 else none
 | [], i => rfl
 | a :: l, i => by
  show C4' k ((a, 1, i) :: mOf (i + 1) l) = _
  rw [C4', NL' k l (i + 1)]
  unfold hasN
  rw [List.any_cons]
  by_cases h : k = a
  ·rw [if_pos h, decide_eq_true h, Bool.true_or, if_pos rfl]
  ·rw [if_neg h, decide_eq_false h, Bool.false_or]
theorem RL' {k : ByteArray} {m : KMap ByteArray Int} (h : C4' k m = none) (i : Nat) : DN' k m i = none := by
 have := DW' k m i
 rw [h] at this
 cases hf : DN' k m i with
 | none => rfl
 | some p => rw [hf] at this; cases this
theorem XD' {k : ByteArray} {m : KMap ByteArray Int} (h : C4' k m = none) (c : Nat) (x : Int) : kset m c k x = m ++ [(k, x, c)] ∧ NO' m c k = c + 1 := by
 unfold kset NO'
 rw [RL' h]
 exact ⟨rfl, rfl⟩
theorem U7' {k : ByteArray} {m : KMap ByteArray Int} (h : C4' k m = none) (c : Nat) (x : Int) : C4' k (m ++ [(k, x, c)]) = some x := by
 induction m with
 | nil => show C4' k [(k, x, c)] = _; rw [C4', if_pos rfl]
 | cons e m ih =>
  rw [C4'] at h
  show C4' k (e :: (m ++ [(k, x, c)])) = _
  rw [C4']
  split
  ·rename_i he; rw [if_pos he] at h; cases h
  ·rename_i he; rw [if_neg he] at h; exact ih h
theorem Z7' (a b : ByteArray) : (a == b) = decide (a = b) := by
 cases a with | mk a => cases b with | mk b =>
 show (a == b) = _
 by_cases h : a = b
 ·subst h; simp
 ·have : ByteArray.mk a ≠ ByteArray.mk b := fun e => h (ByteArray.mk.inj e)
  simp [h]
theorem GM' : KOK Value.string where
 inj a b := by simp [valQ]
 same k := by simp [Instr.sameBits, Z7']
theorem P7' : KTy Tryz.prog 9 Value.string := by
 intro E a b
 have hu : Tryz.prog.underlying 9 = some .string := by kernel_rfl
 show (match Instr.sameNow ((Tryz.prog.underlying 9).getD .invalid) (.string a) (.string b) with
  | some r => pure r
  | none => AP.opt "key " (C8' Tryz.prog (Op.equal 9 (.string a) (.string b)))) = AP.ret (decide (a = b))
 rw [hu]
 show (AP.ret (a == b) : AP Bool) = _
 rw [Z7']
theorem I0' {α : Type} {l : List α} {j : Nat} {x : α} (h : l[j]? = some x) : l.drop j = x :: l.drop (j + 1) := by
 obtain ⟨hj, he⟩ := List.getElem?_eq_some_iff.1 h
 rw [List.drop_eq_getElem_cons hj, he]
theorem LC' {W : World} {x : Rj} {dep : Nat} {e : Int} (h : Tri Tryz.prog W fCk [aggJ x, iv (Int.ofNat dep)] [] (iv e) []) (F : HP) (hF : AK' W F) : C1OK Tryz.prog F fCk (cCk x dep e) :=
 BR' hF (fun _ => iv e) (fun _ => RO.ret _) (fun _ => rfl) (fun _ _ => h) fun _ => ⟨rfl, rfl, ⟨⟨Ye, Ye, Ye, Ye, Ye, Ye⟩, Ye, Ye⟩, A7', ⟨Ye, Ye⟩, A7'⟩
variable {W : World} {d : Nat} {l : List Jv} {r : Rj} {dep : Nat} {f : Jv → Int} {names : List ByteArray}
theorem M3' (hdep : dep < 1000000) (hf : ∀ u x, u ∈ l → JAt W.cell? d u x → Tri Tryz.prog W fCk [aggJ x, iv (Int.ofNat (dep + 1))] [] (iv (f u)) []) (al : LOf (JAt W.cell? d) W.cell? r.la l) (hll : r.ll = l.length) (hk : r.k = Int.ofNat 5 ∨ r.ll = 0) (e : Int) (he : errL f false names 0 l = e) (ax : AX) (Z : List (Nat × AV)) (hax : ax ≠ .normal)
  (hx : e = 0 → ax = .exit 1 ∧ Z = []) (hr : e ≠ 0 → ax = .ret ∧ Z = [(4, iv e)]) : LTri Tryz.prog W (A2' fCk 18) (tms 0 146 (aCk r dep 0)) (oCk r [] 0) ax (tms 0 146 Z) [] := by
 have hlen := E7' al.1 (by decide)
 refine BW' (W := W) (g := fCk) (b := A2' fCk 18) (σ := {j : Nat // j ≤ r.ll ∧ errL f false names j (l.drop j) = e}) 146 (fun j => aCk r dep j.1) (fun j => oCk r [] 0) ax Z [] (fun j => r.ll - j.1) [1000, 1001] iCk hax (fun _ => rfl) rfl ?_ ⟨0, Nat.zero_le _, he⟩
 rintro ⟨j, hj, hE⟩
 simp only
 by_cases h1 : j < r.ll
 ·obtain ⟨u, hu⟩ := BS' (l := l) (i := j) (by omega)
  obtain ⟨a, x, ea, q1, q2⟩ := al.2 j u hu
  have aA := all5 q1
  obtain ⟨a1, a2, a3, a4, a5⟩ := c5 q1
  have hw := BO' j (by omega)
  have hwd := BO' dep (by omega)
  have e1 : decide (Int.ofNat j < Int.ofNat r.ll) = true := by rw [IF']; exact decide_eq_true h1
  have hkk : r.k = Int.ofNat 5 := hk.resolve_right (by omega)
  have ht := hf u x (List.mem_of_getElem? hu) q2
  rw [I0' hu] at hE
  unfold errL at hE
  rw [if_neg (by rw [Bool.false_and]; decide)] at hE
  obtain ⟨rk, rn, rt, rla, rll, rlc, rta, rtl, rtc⟩ := r
  simp only at ea hkk
  subst ea hkk
  by_cases h0 : f u = 0
  ·rw [if_neg (by simpa using h0)] at hE
   rw [h0] at ht
   refine ⟨[(fCk, cCk x (dep + 1) 0)], hCkR false j dep x nil0 0 [] 0 false false, [], fun F hF => AO' (LC' ht F hF), fun _ _ => noL, fun F => ?_⟩
   refine Yj (WY' W ⟨Int.ofNat 5, rn, rt, none, rll, rlc, rta, rtl, rtc⟩ x a dep j F) ⟨⟨?_, rfl, .inl ⟨rfl, ⟨j + 1, h1, hE⟩, BD' h1, [(1000, 1000), (1001, 1001)], by kernel_rfl, by kernel_rfl, ⟨Ya, Ya, Ya, Ya, Ya, Ya, Ya, Ye⟩, ⟨_, rfl, Yc⟩, ⟨_, rfl, Yc⟩, Ye⟩⟩⟩
   simp only [Cnd.holds, e1, h1, aA, a1, a2, a3, a4, a5, Option.getD_some, Option.isSome_some, Nat.blt_eq, true_and, and_true]
   and_intros
   all_goals first
    | (with_reducible exact AP' hw)
    | (with_reducible exact AP' hwd)
    | exact A0' e1
    | exact A0' rfl
    | exact CE' rfl rfl rfl rfl rfl | (with_reducible first | exact Ye | exact Yf | exact A4' _ | assumption) | exact Yf | ((repeat (first | exact VW.nil | refine Yg ?_ | refine Yh ?_ | refine Yi ?_)); done)
  ·rw [if_pos h0] at hE
   subst hE
   obtain ⟨rfl, rfl⟩ := hr h0
   have hne : (f u != Int.ofNat 0) = true := by simpa using h0
   refine ⟨[(fCk, cCk x (dep + 1) (f u))], hCkR false j dep x nil0 0 [] 0 false true, [], fun F hF => AO' (LC' ht F hF), fun _ _ => noL, fun F => ?_⟩
   refine Yj (WX' W ⟨Int.ofNat 5, rn, rt, none, rll, rlc, rta, rtl, rtc⟩ x a dep j (f u) F) ⟨⟨?_, rfl, .inr ⟨rfl, [], by kernel_rfl, by kernel_rfl, ⟨Ya, Ye⟩, Ye⟩⟩⟩
   simp only [Cnd.holds, e1, h1, aA, a1, a2, a3, a4, a5, Option.getD_some, Option.isSome_some, Nat.blt_eq, true_and, and_true]
   and_intros
   all_goals first
    | (with_reducible exact AP' hw)
    | (with_reducible exact AP' hwd)
    | exact A0' e1
    | exact A0' hne
    | exact A0' rfl
    | exact CE' rfl rfl rfl rfl rfl | (with_reducible first | exact Ye | exact Yf | exact A4' _ | assumption) | exact Yf | ((repeat (first | exact VW.nil | refine Yg ?_ | refine Yh ?_ | refine Yi ?_)); done)
 ·have hje : j = r.ll := by omega
  subst hje
  rw [hll, List.drop_length] at hE
  obtain ⟨rfl, rfl⟩ := hx hE.symm
  refine ⟨[], A9' [(fCk, 18, 0, hv (.lit false))], [], fun _ _ => noC, fun _ _ => noL, fun F => ?_⟩
  refine Yj (TM' W r dep [] 0 F) ⟨⟨?_, rfl, .inr ⟨rfl, [], by kernel_rfl, by kernel_rfl, Ye, Ye⟩⟩⟩
  have e1 : decide (Int.ofNat r.ll < Int.ofNat r.ll) = false := by rw [IF']; exact decide_eq_false (Nat.lt_irrefl _)
  simp only [Cnd.holds, Nat.blt_eq, true_and, and_true]
  and_intros
  all_goals first
   | exact A0' e1 | (with_reducible first | exact Ye | exact Yf | exact A4' _ | assumption) | exact Yf | ((repeat (first | exact VW.nil | refine Yg ?_ | refine Yh ?_ | refine Yi ?_)); done)
variable {W : World} {d : Nat} {l : List Jv} {r : Rj} {dep : Nat} {f : Jv → Int} {names : List ByteArray}
theorem SZ' {κ α : Type} (σ : Nat → Nat) (kv : κ → Value) (ev : α → AV) (hev : ∀ x, (ev x).ren σ = ev x) : ∀ m : KMap κ α, renE σ (kE kv ev m) = kE kv ev m
 | [] => rfl
 | e :: m => by
  show (_, _, _) :: renE σ (kE kv ev m) = _
  rw [SZ' σ kv ev hev m, hev]
  rfl
theorem Z2' {κ α : Type} (K : Nat → Bool) (kv : κ → Value) (ev : α → AV) (hev : ∀ x, AV.cl K (ev x)) : ∀ m : KMap κ α, clE K (kE kv ev m)
 | [] => trivial
 | e :: m => ⟨Ye, hev _, Z2' K kv ev hev m⟩
theorem H8' (nm : ByteArray) (m : KMap ByteArray Int) (o : Option Int) (h : C4' nm m = o) : BU' (AZ' (AV.v (Value.string nm)) (kE Value.string ivE m) 0) (Value.int IntKind.i64 (Int.ofNat 0)) = iv (o.getD 0) := by
 rw [XL' GM', h]
 cases o <;> rfl
theorem TS' (nm : ByteArray) (m m' : KMap ByteArray Int) (c : Nat) (x : Int) (h : kset m c nm x = m') (c' : Nat) (h2 : NO' m c nm = c') : OW (AO.map (setE (AV.v (Value.string nm)) (AV.v (Value.int IntKind.i64 x)) (kE Value.string ivE m) c) (ES' (AV.v (Value.string nm)) (kE Value.string ivE m) c)) (AO.map (kE Value.string ivE m') c') := by
 have h3 := ZO' (ev := ivE) GM' nm x m c
 have h4 := XZ' (ev := ivE) GM' nm m c
 rw [h] at h3
 rw [h2] at h4
 rw [show setE (AV.v (Value.string nm)) (AV.v (Value.int IntKind.i64 x)) (kE Value.string ivE m) c = _ from h3, h4]
 exact Yc
theorem QX' (hdep : dep < 1000000) (hf : ∀ u x, u ∈ l → JAt W.cell? d u x → Tri Tryz.prog W fCk [aggJ x, iv (Int.ofNat (dep + 1))] [] (iv (f u)) []) (al : LOf (JAt W.cell? d) W.cell? r.la l) (an : NOf W.cell? r.na names) (hll : r.ll = l.length) (hnl : r.nl = names.length) (hln : names.length = l.length) (hk : r.k = Int.ofNat 6) (e : Int) (he : errL f true names 0 l = e) (ax : AX) (Z : List (Nat × AV)) (hax : ax ≠ .normal)
  (hx : e = 0 → ax = .exit 1 ∧ Z = []) (hr : e ≠ 0 → ax = .ret ∧ Z = [(4, iv e)]) : LTri Tryz.prog W (A2' fCk 18) (tms 0 146 (aCk r dep 0)) (oCk r [] 0) ax (tms 0 146 Z) [] := by
 have hlen := E7' al.1 (by decide)
 refine BW' (W := W) (g := fCk) (b := A2' fCk 18) (σ := {j : Nat // j ≤ r.ll ∧ errL f true names j (l.drop j) = e}) 146 (fun j => aCk r dep j.1) (fun j => oCk r (mOf 0 (names.take j.1)) j.1) ax Z [] (fun j => r.ll - j.1) [1000, 1001] iCk hax (fun _ => rfl) rfl ?_ ⟨0, Nat.zero_le _, he⟩
 rintro ⟨j, hj, hE⟩
 simp only
 by_cases h1 : j < r.ll
 ·obtain ⟨u, hu⟩ := BS' (l := l) (i := j) (by omega)
  obtain ⟨nm, hn⟩ := BS' (l := names) (i := j) (by omega)
  obtain ⟨a, x, ea, q1, q2⟩ := al.2 j u hu
  obtain ⟨b, eb, p1⟩ := an.2 j nm hn
  rw [show j = j * 1 by omega] at p1
  have aA := all5 q1
  obtain ⟨a1, a2, a3, a4, a5⟩ := c5 q1
  have hw := BO' j (by omega)
  have hwd := BO' dep (by omega)
  have e1 : decide (Int.ofNat j < Int.ofNat r.ll) = true := by rw [IF']; exact decide_eq_true h1
  have h2 : j < r.nl := by omega
  have ht := hf u x (List.mem_of_getElem? hu) q2
  rw [I0' hu] at hE
  unfold errL at hE
  rw [Bool.true_and, show names.getD j nil0 = nm by rw [List.getD_eq_getElem?_getD, hn]; rfl] at hE
  have hl1 := NL' nm (names.take j) 0
  have hf1 : ∀ E : Env, findKey Tryz.prog E 9 (.v (.string nm)) (kE Value.string ivE (mOf 0 (names.take j))) 0 = AP.ret (AZ' (.v (.string nm)) (kE Value.string ivE (mOf 0 (names.take j))) 0) := fun E => EY' GM' P7' nm _ 0
  have hs1 : GZ' (.v (.string nm)) (kE Value.string ivE (mOf 0 (names.take j))) := SQ' GM' nm _
  have htk : (names.take (j + 1)) = names.take j ++ [nm] := by rw [List.take_add_one, hn]; rfl
  obtain ⟨rk, rn, rt, rla, rll, rlc, rta, rtl, rtc⟩ := r
  simp only at ea eb hk
  subst ea eb hk
  cases hd : hasN (names.take j) nm with
  | true =>
   rw [hd] at hE hl1
   rw [if_pos rfl] at hE hl1
   subst hE
   obtain ⟨rfl, rfl⟩ := hr (by decide)
   have hv1 := H8' nm (mOf 0 (names.take j)) _ hl1
   obtain ⟨m', hm'⟩ : ∃ m', kset (mOf 0 (names.take j)) j nm (Int.ofNat 2) = m' := ⟨_, rfl⟩
   obtain ⟨c', hc'⟩ : ∃ c', NO' (mOf 0 (names.take j)) j nm = c' := ⟨_, rfl⟩
   have ho := TS' nm _ m' j (Int.ofNat 2) hm' c' hc'
   have hv2 : BU' (AZ' (AV.v (Value.string nm)) (kE Value.string ivE m') 0) (Value.int IntKind.i64 (Int.ofNat 0)) = iv 2 := by
    refine H8' nm m' (some 2) ?_
    rw [← hm', RK', if_pos rfl]
    rfl
   have hf2 : ∀ E : Env, findKey Tryz.prog E 9 (.v (.string nm)) (kE Value.string ivE m') 0 = AP.ret (AZ' (.v (.string nm)) (kE Value.string ivE m') 0) := fun E => EY' GM' P7' nm _ 0
   refine ⟨[], hCkR true j dep x nm 1 m' c' true false, [], fun F hF => noC, fun _ _ => noL, fun F => ?_⟩
   refine Yj (WU' W ⟨Int.ofNat 6, rn, rt, none, rll, rlc, none, rtl, rtc⟩ x a b nm dep j (mOf 0 (names.take j)) m' j c' F) ⟨⟨?_, rfl, .inr ⟨rfl, [], by kernel_rfl, by kernel_rfl, ⟨Ya, Ye⟩, Ye⟩⟩⟩
   simp only [Cnd.holds, e1, h1, h2, p1, aA, a1, a2, a3, a4, a5, hv1, hv2, Option.getD_some, Option.isSome_some, Nat.blt_eq, true_and, and_true]
   and_intros
   all_goals first
    | exact hf1 _
    | exact hf2 _
    | exact hs1
    | exact ho
    | exact A0' e1
    | exact A0' rfl
    | exact CE' rfl rfl rfl rfl rfl | (with_reducible first | exact Ye | exact Yf | exact A4' _ | assumption) | exact Yf | ((repeat (first | exact VW.nil | refine Yg ?_ | refine Yh ?_ | refine Yi ?_)); done)
  | false =>
   rw [hd] at hE hl1
   rw [if_neg (by decide)] at hE hl1
   have hv1 := H8' nm (mOf 0 (names.take j)) _ hl1
   obtain ⟨k1, k2⟩ := XD' hl1 j (Int.ofNat 1)
   have hm2 : mOf 0 (names.take j) ++ [(nm, Int.ofNat 1, j)] = mOf 0 (names.take (j + 1)) := by
    rw [htk, L2', Nat.zero_add, List.length_take, Nat.min_eq_left (by omega)]
    rfl
   have ho := TS' nm _ (mOf 0 (names.take (j + 1))) j (Int.ofNat 1) (k1.trans hm2) (j + 1) k2
   have hv2 : BU' (AZ' (AV.v (Value.string nm)) (kE Value.string ivE (mOf 0 (names.take (j + 1)))) 0) (Value.int IntKind.i64 (Int.ofNat 0)) = iv 1 := by
    refine H8' nm _ (some 1) ?_
    rw [← hm2]
    exact U7' hl1 j 1
   have hf2 : ∀ E : Env, findKey Tryz.prog E 9 (.v (.string nm)) (kE Value.string ivE (mOf 0 (names.take (j + 1)))) 0 = AP.ret (AZ' (.v (.string nm)) (kE Value.string ivE (mOf 0 (names.take (j + 1)))) 0) := fun E => EY' GM' P7' nm _ 0
   by_cases h0 : f u = 0
   ·rw [if_neg (by simpa using h0)] at hE
    rw [h0] at ht
    refine ⟨[(fCk, cCk x (dep + 1) 0)], hCkR true j dep x nm 0 (mOf 0 (names.take (j + 1))) (j + 1) false false, [], fun F hF => AO' (LC' ht F hF), fun _ _ => noL, fun F => ?_⟩
    refine Yj (WT' W ⟨Int.ofNat 6, rn, rt, none, rll, rlc, none, rtl, rtc⟩ x a b nm dep j (mOf 0 (names.take j)) (mOf 0 (names.take (j + 1))) j F) ⟨⟨?_, rfl, .inl ⟨rfl, ⟨j + 1, h1, hE⟩, BD' h1, [(1000, 1000), (1001, 1001)], by kernel_rfl, by kernel_rfl, ⟨Ya, Ya, Ya, Ya, Ya, Ya, Ya, Ye⟩, ⟨_, rfl, Yc⟩, ⟨_, rfl, by show OW _ (AO.map (renE _ (kE Value.string ivE _)) _); rw [SZ' _ Value.string ivE (fun _ => rfl)]; exact Yc⟩, Ye⟩⟩⟩
    simp only [Cnd.holds, e1, h1, h2, p1, aA, a1, a2, a3, a4, a5, hv1, hv2, Option.getD_some, Option.isSome_some, Nat.blt_eq, true_and, and_true]
    and_intros
    all_goals first
     | exact hf1 _
     | exact hf2 _
     | exact hs1
     | exact ho
     | (with_reducible exact AP' hw)
     | (with_reducible exact AP' hwd)
     | exact A0' e1
     | exact A0' rfl
     | exact CE' rfl rfl rfl rfl rfl | (with_reducible first | exact Ye | exact Yf | exact A4' _ | assumption) | exact Yf | ((repeat (first | exact VW.nil | refine Yg ?_ | refine Yh ?_ | refine Yi ?_)); done)
   ·rw [if_pos h0] at hE
    subst hE
    obtain ⟨rfl, rfl⟩ := hr h0
    have hne : (f u != Int.ofNat 0) = true := by simpa using h0
    refine ⟨[(fCk, cCk x (dep + 1) (f u))], hCkR true j dep x nm 0 (mOf 0 (names.take (j + 1))) (j + 1) false true, [], fun F hF => AO' (LC' ht F hF), fun _ _ => noL, fun F => ?_⟩
    refine Yj (WS' W ⟨Int.ofNat 6, rn, rt, none, rll, rlc, none, rtl, rtc⟩ x a b nm dep j (mOf 0 (names.take j)) (mOf 0 (names.take (j + 1))) j (f u) F) ⟨⟨?_, rfl, .inr ⟨rfl, [], by kernel_rfl, by kernel_rfl, ⟨Ya, Ye⟩, Ye⟩⟩⟩
    simp only [Cnd.holds, e1, h1, h2, p1, aA, a1, a2, a3, a4, a5, hv1, hv2, Option.getD_some, Option.isSome_some, Nat.blt_eq, true_and, and_true]
    and_intros
    all_goals first
     | exact hf1 _
     | exact hf2 _
     | exact hs1
     | exact ho
     | (with_reducible exact AP' hw)
     | (with_reducible exact AP' hwd)
     | exact A0' e1
     | exact A0' hne
     | exact A0' rfl
     | exact CE' rfl rfl rfl rfl rfl | (with_reducible first | exact Ye | exact Yf | exact A4' _ | assumption) | exact Yf | ((repeat (first | exact VW.nil | refine Yg ?_ | refine Yh ?_ | refine Yi ?_)); done)
 ·have hje : j = r.ll := by omega
  subst hje
  rw [hll, List.drop_length] at hE
  obtain ⟨rfl, rfl⟩ := hx hE.symm
  refine ⟨[], A9' [(fCk, 18, 0, hv (.lit false))], [], fun _ _ => noC, fun _ _ => noL, fun F => ?_⟩
  refine Yj (TM' W r dep (mOf 0 (names.take r.ll)) r.ll F) ⟨⟨?_, rfl, .inr ⟨rfl, [], by kernel_rfl, by kernel_rfl, Ye, Ye⟩⟩⟩
  have e1 : decide (Int.ofNat r.ll < Int.ofNat r.ll) = false := by rw [IF']; exact decide_eq_false (Nat.lt_irrefl _)
  simp only [Cnd.holds, Nat.blt_eq, true_and, and_true]
  and_intros
  all_goals first
   | exact A0' e1 | (with_reducible first | exact Ye | exact Yf | exact A4' _ | assumption) | exact Yf | ((repeat (first | exact VW.nil | refine Yg ?_ | refine Yh ?_ | refine Yi ?_)); done)
theorem YZ' (args : List AV) : RO (gCk args) := by
 unfold gCk
 split
 ·split
  ·exact RO.ret _
  ·exact RO.fail _
 ·exact RO.fail _
theorem YL' (K : Nat → Bool) (r : Rj) (m : KMap ByteArray Int) (c : Nat) : ∀ x ∈ oCk r m c, x.2.cl K := A1' ⟨Ye, Ye, Ye, Ye, Ye, Ye⟩ (A1' (Z2' K Value.string ivE (fun _ => trivial) m) A7')
theorem ZB' (r : Rj) (dep : Nat) (K : Nat → Bool) (h0 : K 1000 = true) (h1 : K 1001 = true) : ∀ x ∈ aCk r dep 0, AV.cl K x.2 :=
 A1' Ye (A1' h0 (A1' Ye (A1' h1 (A1' Ye (A1' Ye (A1' Ye A7'))))))
variable {W : World} {r : Rj} {dep : Nat} {e : Int} {p : Prop}
theorem HY' (h : p → LTri Tryz.prog W (A2' fCk 18) (tms 0 146 (aCk r dep 0)) (oCk r [] 0) (.exit 1) (tms 0 146 []) []) (F : HP) (hF : AK' W F) : L1OK Tryz.prog F (A2' fCk 18) (lCkE p r dep) :=
 CL' hF YZ' (fun _ hp => h hp) fun _ => by
  simp only [RT.pick]
  exact C0' rfl rfl (ZB' r dep _ rfl rfl) (YL' _ _ _ _) A7' A7'
theorem U5' (h : p → LTri Tryz.prog W (A2' fCk 18) (tms 0 146 (aCk r dep 0)) (oCk r [] 0) .ret (tms 0 146 [(4, iv e)]) []) (F : HP) (hF : AK' W F) : L1OK Tryz.prog F (A2' fCk 18) (lCkR p r dep e) :=
 CL' hF YZ' (fun _ hp => h hp) fun _ => by
  simp only [RT.pick]
  exact C0' rfl rfl (ZB' r dep _ rfl rfl) (YL' _ _ _ _) (A1' Ye A7') A7'
theorem CI' {a b : Int} (h : b = a) : VW [AV.v (.int .i64 a)] [iv b] := by subst h; exact Yb
def errE (K : Nat) (r : Rj) (dep : Nat) : Int := errK K r.n r.t r.ll r.nl dep
def orE (a e : Int) : Int := if a ≠ 0 then a else e
theorem CK' {a e z : Int} (h : a = z) (hz : z ≠ 0) : orE a e = z := by subst h; unfold orE; rw [if_pos hz]
theorem G4' {a e : Int} (h : a = 0) : orE a e = e := by subst h; unfold orE; rw [if_neg (by decide)]
theorem ST' {r : Rj} (K : Nat) (h : r.k = Int.ofNat K) : kR K r = r := by
 obtain ⟨rk, rn, rt, rla, rll, rlc, rta, rtl, rtc⟩ := r
 simp only at h
 subst h
 rfl
theorem ck1 (hs : Few r.t.size) (h : errE 1 r dep = 0 → LTri Tryz.prog W (A2' fCk 18) (tms 0 146 (aCk (kR 1 r) dep 0)) (oCk (kR 1 r) [] 0) (.exit 1) (tms 0 146 []) []) : Tri Tryz.prog W fCk [aggJ (kR 1 r), iv (Int.ofNat dep)] [] (iv (orE (errE 1 r dep) 0)) [] := by
 refine AD' (con := [(fNum, cNum)]) (hints := hCk 1 false false) (lc := [(fCk, 18, A2' fCk 18, lCkE (errE 1 r dep = 0) (kR 1 r) dep)]) [] rfl (fun F hF => AO' (DO' F hF)) (fun F hF => BV' (HY' h F hF)) fun F => ?_
 refine cast (congrArg (VAll _) (bZ' W (errE 1 r dep = 0) r dep F).symm) ?_
 repeat' refine VAll.ite (fun hq => ?_) (fun hq => ?_)
 all_goals
  refine ⟨⟨?_, (AJ' (vs' := [iv (orE (errE 1 r dep) 0)]) (H' := []) [] rfl rfl (CI' (by first
   | exact CK' (by simp only [errE, errK, tt, nzQ, txtN, posQ, BF', *, if_true, Bool.false_eq_true, if_false]; rfl) (by decide)
   | exact G4' (by simp only [errE, errK, tt, nzQ, txtN, posQ, BF', *, if_true, Bool.false_eq_true, if_false]))) trivial).fits rfl⟩⟩
  simp only [Cnd.holds, Nat.blt_eq, true_and, and_true]
  and_intros
  all_goals first
   | (with_reducible exact Ye)
   | (with_reducible exact rfl)
   | (with_reducible exact Ya)
   | (with_reducible exact Yb)
   | (with_reducible exact Yc)
   | (with_reducible exact A4' _)
   | exact hs
   | exact A0' rfl
   | (simp only [errE, errK, tt, nzQ, txtN, posQ, BF', *, if_true, Bool.false_eq_true, if_false]; done)
   | exact rfl
   | ((repeat (first | exact VW.nil | refine VW.cons Ya ?_ | refine VW.cons (Wk.any _) ?_)); done)
theorem ck2 (hs : Few r.t.size) (h : errE 2 r dep = 0 → LTri Tryz.prog W (A2' fCk 18) (tms 0 146 (aCk (kR 2 r) dep 0)) (oCk (kR 2 r) [] 0) (.exit 1) (tms 0 146 []) []) : Tri Tryz.prog W fCk [aggJ (kR 2 r), iv (Int.ofNat dep)] [] (iv (orE (errE 2 r dep) 0)) [] := by
 refine AD' (con := [(fNum, cNum)]) (hints := hCk 2 false false) (lc := [(fCk, 18, A2' fCk 18, lCkE (errE 2 r dep = 0) (kR 2 r) dep)]) [] rfl (fun F hF => AO' (DO' F hF)) (fun F hF => BV' (HY' h F hF)) fun F => ?_
 refine cast (congrArg (VAll _) (bY' W (errE 2 r dep = 0) r dep F).symm) ?_
 repeat' refine VAll.ite (fun hq => ?_) (fun hq => ?_)
 all_goals
  refine ⟨⟨?_, (AJ' (vs' := [iv (orE (errE 2 r dep) 0)]) (H' := []) [] rfl rfl (CI' (by first
   | exact CK' (by simp only [errE, errK, tt, nzQ, txtN, posQ, BF', *, if_true, Bool.false_eq_true, if_false]; rfl) (by decide)
   | exact G4' (by simp only [errE, errK, tt, nzQ, txtN, posQ, BF', *, if_true, Bool.false_eq_true, if_false]))) trivial).fits rfl⟩⟩
  simp only [Cnd.holds, Nat.blt_eq, true_and, and_true]
  and_intros
  all_goals first
   | (with_reducible exact Ye)
   | (with_reducible exact rfl)
   | (with_reducible exact Ya)
   | (with_reducible exact Yb)
   | (with_reducible exact Yc)
   | (with_reducible exact A4' _)
   | exact hs
   | exact A0' rfl
   | (simp only [errE, errK, tt, nzQ, txtN, posQ, BF', *, if_true, Bool.false_eq_true, if_false]; done)
   | exact rfl
   | ((repeat (first | exact VW.nil | refine VW.cons Ya ?_ | refine VW.cons (Wk.any _) ?_)); done)
theorem ck3 (hs : Few r.t.size) (h : errE 3 r dep = 0 → LTri Tryz.prog W (A2' fCk 18) (tms 0 146 (aCk (kR 3 r) dep 0)) (oCk (kR 3 r) [] 0) (.exit 1) (tms 0 146 []) []) : Tri Tryz.prog W fCk [aggJ (kR 3 r), iv (Int.ofNat dep)] [] (iv (orE (errE 3 r dep) 0)) [] := by
 refine AD' (con := [(fNum, cNum)]) (hints := hCk 3 false false) (lc := [(fCk, 18, A2' fCk 18, lCkE (errE 3 r dep = 0) (kR 3 r) dep)]) [] rfl (fun F hF => AO' (DO' F hF)) (fun F hF => BV' (HY' h F hF)) fun F => ?_
 refine cast (congrArg (VAll _) (bX' W (errE 3 r dep = 0) r dep F).symm) ?_
 repeat' refine VAll.ite (fun hq => ?_) (fun hq => ?_)
 all_goals
  refine ⟨⟨?_, (AJ' (vs' := [iv (orE (errE 3 r dep) 0)]) (H' := []) [] rfl rfl (CI' (by first
   | exact CK' (by simp only [errE, errK, tt, nzQ, txtN, posQ, BF', *, if_true, Bool.false_eq_true, if_false]; rfl) (by decide)
   | exact G4' (by simp only [errE, errK, tt, nzQ, txtN, posQ, BF', *, if_true, Bool.false_eq_true, if_false]))) trivial).fits rfl⟩⟩
  simp only [Cnd.holds, Nat.blt_eq, true_and, and_true]
  and_intros
  all_goals first
   | (with_reducible exact Ye)
   | (with_reducible exact rfl)
   | (with_reducible exact Ya)
   | (with_reducible exact Yb)
   | (with_reducible exact Yc)
   | (with_reducible exact A4' _)
   | exact hs
   | exact A0' rfl
   | (simp only [errE, errK, tt, nzQ, txtN, posQ, BF', *, if_true, Bool.false_eq_true, if_false]; done)
   | exact rfl
   | ((repeat (first | exact VW.nil | refine VW.cons Ya ?_ | refine VW.cons (Wk.any _) ?_)); done)
theorem ck4 (hs : Few r.t.size) (h : errE 4 r dep = 0 → LTri Tryz.prog W (A2' fCk 18) (tms 0 146 (aCk (kR 4 r) dep 0)) (oCk (kR 4 r) [] 0) (.exit 1) (tms 0 146 []) []) : Tri Tryz.prog W fCk [aggJ (kR 4 r), iv (Int.ofNat dep)] [] (iv (orE (errE 4 r dep) 0)) [] := by
 refine AD' (con := [(fNum, cNum)]) (hints := hCk 4 false false) (lc := [(fCk, 18, A2' fCk 18, lCkE (errE 4 r dep = 0) (kR 4 r) dep)]) [] rfl (fun F hF => AO' (DO' F hF)) (fun F hF => BV' (HY' h F hF)) fun F => ?_
 refine cast (congrArg (VAll _) (bW' W (errE 4 r dep = 0) r dep F).symm) ?_
 repeat' refine VAll.ite (fun hq => ?_) (fun hq => ?_)
 all_goals
  refine ⟨⟨?_, (AJ' (vs' := [iv (orE (errE 4 r dep) 0)]) (H' := []) [] rfl rfl (CI' (by first
   | exact CK' (by simp only [errE, errK, tt, nzQ, txtN, posQ, BF', *, if_true, Bool.false_eq_true, if_false]; rfl) (by decide)
   | exact G4' (by simp only [errE, errK, tt, nzQ, txtN, posQ, BF', *, if_true, Bool.false_eq_true, if_false]))) trivial).fits rfl⟩⟩
  simp only [Cnd.holds, Nat.blt_eq, true_and, and_true]
  and_intros
  all_goals first
   | (with_reducible exact Ye)
   | (with_reducible exact rfl)
   | (with_reducible exact Ya)
   | (with_reducible exact Yb)
   | (with_reducible exact Yc)
   | (with_reducible exact A4' _)
   | exact hs
   | exact A0' rfl
   | (simp only [errE, errK, tt, nzQ, txtN, posQ, BF', *, if_true, Bool.false_eq_true, if_false]; done)
   | exact rfl
   | ((repeat (first | exact VW.nil | refine VW.cons Ya ?_ | refine VW.cons (Wk.any _) ?_)); done)
theorem ck5X (hs : Few r.t.size) (h : errE 5 r dep = 0 → LTri Tryz.prog W (A2' fCk 18) (tms 0 146 (aCk (kR 5 r) dep 0)) (oCk (kR 5 r) [] 0) (.exit 1) (tms 0 146 []) []) : Tri Tryz.prog W fCk [aggJ (kR 5 r), iv (Int.ofNat dep)] [] (iv (orE (errE 5 r dep) 0)) [] := by
 refine AD' (con := [(fNum, cNum)]) (hints := hCk 5 false false) (lc := [(fCk, 18, A2' fCk 18, lCkE (errE 5 r dep = 0) (kR 5 r) dep)]) [] rfl (fun F hF => AO' (DO' F hF)) (fun F hF => BV' (HY' h F hF)) fun F => ?_
 refine cast (congrArg (VAll _) (WV' W (errE 5 r dep = 0) r dep F).symm) ?_
 repeat' refine VAll.ite (fun hq => ?_) (fun hq => ?_)
 all_goals
  refine ⟨⟨?_, (AJ' (vs' := [iv (orE (errE 5 r dep) 0)]) (H' := []) [] rfl rfl (CI' (by first
   | exact CK' (by simp only [errE, errK, tt, nzQ, txtN, posQ, BF', *, if_true, Bool.false_eq_true, if_false]; rfl) (by decide)
   | exact G4' (by simp only [errE, errK, tt, nzQ, txtN, posQ, BF', *, if_true, Bool.false_eq_true, if_false]))) trivial).fits rfl⟩⟩
  simp only [Cnd.holds, Nat.blt_eq, true_and, and_true]
  and_intros
  all_goals first
   | (with_reducible exact Ye)
   | (with_reducible exact rfl)
   | (with_reducible exact Ya)
   | (with_reducible exact Yb)
   | (with_reducible exact Yc)
   | (with_reducible exact A4' _)
   | exact hs
   | exact A0' rfl
   | (simp only [errE, errK, tt, nzQ, txtN, posQ, BF', *, if_true, Bool.false_eq_true, if_false]; done)
   | exact rfl
   | ((repeat (first | exact VW.nil | refine VW.cons Ya ?_ | refine VW.cons (Wk.any _) ?_)); done)
theorem ck5T (hs : Few r.t.size) (h : errE 5 r dep = 0 → LTri Tryz.prog W (A2' fCk 18) (tms 0 146 (aCk (kR 5 r) dep 0)) (oCk (kR 5 r) [] 0) .ret (tms 0 146 [(4, iv e)]) []) : Tri Tryz.prog W fCk [aggJ (kR 5 r), iv (Int.ofNat dep)] [] (iv (orE (errE 5 r dep) e)) [] := by
 refine AD' (con := [(fNum, cNum)]) (hints := hCk 5 false false) (lc := [(fCk, 18, A2' fCk 18, lCkR (errE 5 r dep = 0) (kR 5 r) dep e)]) [] rfl (fun F hF => AO' (DO' F hF)) (fun F hF => BV' (U5' h F hF)) fun F => ?_
 refine cast (congrArg (VAll _) (WW' W (errE 5 r dep = 0) r dep e F).symm) ?_
 repeat' refine VAll.ite (fun hq => ?_) (fun hq => ?_)
 all_goals
  refine ⟨⟨?_, (AJ' (vs' := [iv (orE (errE 5 r dep) e)]) (H' := []) [] rfl rfl (CI' (by first
   | exact CK' (by simp only [errE, errK, tt, nzQ, txtN, posQ, BF', *, if_true, Bool.false_eq_true, if_false]; rfl) (by decide)
   | exact G4' (by simp only [errE, errK, tt, nzQ, txtN, posQ, BF', *, if_true, Bool.false_eq_true, if_false]))) trivial).fits rfl⟩⟩
  simp only [Cnd.holds, Nat.blt_eq, true_and, and_true]
  and_intros
  all_goals first
   | (with_reducible exact Ye)
   | (with_reducible exact rfl)
   | (with_reducible exact Ya)
   | (with_reducible exact Yb)
   | (with_reducible exact Yc)
   | (with_reducible exact A4' _)
   | exact hs
   | exact A0' rfl
   | (simp only [errE, errK, tt, nzQ, txtN, posQ, BF', *, if_true, Bool.false_eq_true, if_false]; done)
   | exact rfl
   | ((repeat (first | exact VW.nil | refine VW.cons Ya ?_ | refine VW.cons (Wk.any _) ?_)); done)
theorem ck6X (hs : Few r.t.size) (h : errE 6 r dep = 0 → LTri Tryz.prog W (A2' fCk 18) (tms 0 146 (aCk (kR 6 r) dep 0)) (oCk (kR 6 r) [] 0) (.exit 1) (tms 0 146 []) []) : Tri Tryz.prog W fCk [aggJ (kR 6 r), iv (Int.ofNat dep)] [] (iv (orE (errE 6 r dep) 0)) [] := by
 refine AD' (con := [(fNum, cNum)]) (hints := hCk 6 false false) (lc := [(fCk, 18, A2' fCk 18, lCkE (errE 6 r dep = 0) (kR 6 r) dep)]) [] rfl (fun F hF => AO' (DO' F hF)) (fun F hF => BV' (HY' h F hF)) fun F => ?_
 refine cast (congrArg (VAll _) (WQ' W (errE 6 r dep = 0) r dep F).symm) ?_
 repeat' refine VAll.ite (fun hq => ?_) (fun hq => ?_)
 all_goals
  refine ⟨⟨?_, (AJ' (vs' := [iv (orE (errE 6 r dep) 0)]) (H' := []) [] rfl rfl (CI' (by first
   | exact CK' (by simp only [errE, errK, tt, nzQ, txtN, posQ, BF', *, if_true, Bool.false_eq_true, if_false]; rfl) (by decide)
   | exact G4' (by simp only [errE, errK, tt, nzQ, txtN, posQ, BF', *, if_true, Bool.false_eq_true, if_false]))) trivial).fits rfl⟩⟩
  simp only [Cnd.holds, Nat.blt_eq, true_and, and_true]
  and_intros
  all_goals first
   | (with_reducible exact Ye)
   | (with_reducible exact rfl)
   | (with_reducible exact Ya)
   | (with_reducible exact Yb)
   | (with_reducible exact Yc)
   | (with_reducible exact A4' _)
   | exact hs
   | exact A0' rfl
   | (simp only [errE, errK, tt, nzQ, txtN, posQ, BF', *, if_true, Bool.false_eq_true, if_false]; done)
   | exact rfl
   | ((repeat (first | exact VW.nil | refine VW.cons Ya ?_ | refine VW.cons (Wk.any _) ?_)); done)
theorem ck6T (hs : Few r.t.size) (h : errE 6 r dep = 0 → LTri Tryz.prog W (A2' fCk 18) (tms 0 146 (aCk (kR 6 r) dep 0)) (oCk (kR 6 r) [] 0) .ret (tms 0 146 [(4, iv e)]) []) : Tri Tryz.prog W fCk [aggJ (kR 6 r), iv (Int.ofNat dep)] [] (iv (orE (errE 6 r dep) e)) [] := by
 refine AD' (con := [(fNum, cNum)]) (hints := hCk 6 false false) (lc := [(fCk, 18, A2' fCk 18, lCkR (errE 6 r dep = 0) (kR 6 r) dep e)]) [] rfl (fun F hF => AO' (DO' F hF)) (fun F hF => BV' (U5' h F hF)) fun F => ?_
 refine cast (congrArg (VAll _) (WR' W (errE 6 r dep = 0) r dep e F).symm) ?_
 repeat' refine VAll.ite (fun hq => ?_) (fun hq => ?_)
 all_goals
  refine ⟨⟨?_, (AJ' (vs' := [iv (orE (errE 6 r dep) e)]) (H' := []) [] rfl rfl (CI' (by first
   | exact CK' (by simp only [errE, errK, tt, nzQ, txtN, posQ, BF', *, if_true, Bool.false_eq_true, if_false]; rfl) (by decide)
   | exact G4' (by simp only [errE, errK, tt, nzQ, txtN, posQ, BF', *, if_true, Bool.false_eq_true, if_false]))) trivial).fits rfl⟩⟩
  simp only [Cnd.holds, Nat.blt_eq, true_and, and_true]
  and_intros
  all_goals first
   | (with_reducible exact Ye)
   | (with_reducible exact rfl)
   | (with_reducible exact Ya)
   | (with_reducible exact Yb)
   | (with_reducible exact Yc)
   | (with_reducible exact A4' _)
   | exact hs
   | exact A0' rfl
   | (simp only [errE, errK, tt, nzQ, txtN, posQ, BF', *, if_true, Bool.false_eq_true, if_false]; done)
   | exact rfl
   | ((repeat (first | exact VW.nil | refine VW.cons Ya ?_ | refine VW.cons (Wk.any _) ?_)); done)
theorem Y8' {W : World} {r : Rj} {dep : Nat} (hs : Few r.t.size) (h : r.k < 1) : Tri Tryz.prog W fCk [aggJ r, iv (Int.ofNat dep)] [] (iv 30) [] := by
 refine AD' (con := [(fNum, cNum)]) (hints := hCk 0 true false) (lc := []) [] rfl (fun F hF => AO' (DO' F hF)) (fun F _ => noL) fun F => ?_
 refine Yj (WO' W r dep F) ⟨⟨?_, (AJ' (vs' := [iv 30]) (H' := []) [] rfl rfl (Yb) trivial).fits rfl⟩⟩
 have h5 : (r.k == Int.ofNat 5) = false := beq_eq_false_iff_ne.2 (by simp only [Z0]; omega)
 have h6 : (r.k == Int.ofNat 6) = false := beq_eq_false_iff_ne.2 (by simp only [Z0]; omega)
 have h1 : decide (r.k < Int.ofNat 1) = true := decide_eq_true h
 simp only [Cnd.holds, Nat.blt_eq, true_and, and_true]
 and_intros
 all_goals first
  | exact hs
  | exact A0' h5
  | exact A0' h6
  | exact A0' h1 | (with_reducible first | exact Ye | exact Yf | exact A4' _ | assumption) | exact Yf | ((repeat (first | exact VW.nil | refine Yg ?_ | refine Yh ?_ | refine Yi ?_)); done)
theorem Y9' {W : World} {r : Rj} {dep : Nat} (hs : Few r.t.size) (h0 : ¬ r.k < 1) (h : 6 < r.k) : Tri Tryz.prog W fCk [aggJ r, iv (Int.ofNat dep)] [] (iv 30) [] := by
 refine AD' (con := [(fNum, cNum)]) (hints := hCk 0 false true) (lc := []) [] rfl (fun F hF => AO' (DO' F hF)) (fun F _ => noL) fun F => ?_
 refine Yj (WP' W r dep F) ⟨⟨?_, (AJ' (vs' := [iv 30]) (H' := []) [] rfl rfl (Yb) trivial).fits rfl⟩⟩
 have h5 : (r.k == Int.ofNat 5) = false := beq_eq_false_iff_ne.2 (by simp only [Z0]; omega)
 have h6 : (r.k == Int.ofNat 6) = false := beq_eq_false_iff_ne.2 (by simp only [Z0]; omega)
 have h1 : decide (r.k < Int.ofNat 1) = false := decide_eq_false h0
 have h2 : decide (r.k > Int.ofNat 6) = true := decide_eq_true h
 simp only [Cnd.holds, Nat.blt_eq, true_and, and_true]
 and_intros
 all_goals first
  | exact hs
  | exact A0' h5
  | exact A0' h6
  | exact A0' h1
  | exact A0' h2 | (with_reducible first | exact Ye | exact Yf | exact A4' _ | assumption) | exact Yf | ((repeat (first | exact VW.nil | refine Yg ?_ | refine Yh ?_ | refine Yi ?_)); done)
theorem UL' {K : Nat} {r : Rj} {dep : Nat} (hK : 1 ≤ K) (hK4 : K ≤ 4) (h : errE K r dep = 0) : r.ll = 0 := by
 have hp : posQ r.ll = false := by
  have key : ∀ b : Bool, b = posQ r.ll → (b = true → False) → b = false := fun b _ h => by cases b; rfl; exact (h rfl).elim
  refine key _ rfl fun hpos => ?_
  unfold errE errK at h
  have : K = 1 ∨ K = 2 ∨ K = 3 ∨ K = 4 := by omega
  rcases this with rfl | rfl | rfl | rfl
  all_goals
   simp only at h
   rw [hpos] at h
   simp only [tt] at h
   repeat' split at h
   all_goals first | (exact absurd h (by decide)) | exact absurd trivial (by assumption)
 unfold posQ at hp
 have := of_decide_eq_false hp
 simp only [Z0] at this
 omega
theorem DI' {K : Nat} {r : Rj} {dep : Nat} (hK : K = 5 ∨ K = 6) (h : errE K r dep = 0) : dep ≤ 16 := by
 have hd : BF' dep = false := by
  unfold errE errK at h
  rcases hK with rfl | rfl
  ·exact (tt_0 (by decide) h).1
  ·exact (tt_0 (by decide) h).1
 unfold BF' at hd
 have := of_decide_eq_false hd
 simp only [Z0] at this
 omega
theorem HZ' {r : Rj} {dep : Nat} (h : errE 6 r dep = 0) : r.nl = r.ll := by
 unfold errE errK at h
 have h1 := (tt_0 (by decide) (tt_0 (by decide) (tt_0 (by decide) (tt_0 (by decide) h).2).2).2).1
 have := bne_eq_false_iff_eq.1 h1
 omega
theorem JX' (L : Nat) (v : Jv) (dep : Nat) : errJ (L + 1) v dep = orE (errT v dep) (errL (fun x => errJ L x (dep + 1)) (v.kind == 6) v.names 0 v.list) := rfl
theorem KD' (W : World) : ∀ (d : Nat) (v : Jv) (r : Rj) (dep : Nat), JAt W.cell? d v r → wJ d v ≤ 4000000 → dep ≤ 17 → Tri Tryz.prog W fCk [aggJ r, iv (Int.ofNat dep)] [] (iv (errJ d v dep)) []
 | 0, _, _, _, h, _, _ => h.elim
 | d + 1, v, r, dep, h, hw, hdep => by
  obtain ⟨⟨i1, i2, i3, i4, i5⟩, al, af⟩ := h
  have hs : Few r.t.size := by
   have := SE' d v
   rw [← i3] at this
   unfold Few; omega
  have hf : dep ≤ 16 → ∀ u x, u ∈ v.list → JAt W.cell? d u x → Tri Tryz.prog W fCk [aggJ x, iv (Int.ofNat (dep + 1))] [] (iv (errJ d u (dep + 1))) [] := fun hd u x hu hj => by
   have := YD' (L := d) hu
   exact KD' W d u x (dep + 1) hj (by omega) (by omega)
  rw [JX']
  obtain ⟨e, he⟩ : ∃ e, errL (fun x => errJ d x (dep + 1)) (v.kind == 6) v.names 0 v.list = e := ⟨_, rfl⟩
  rw [he]
  unfold errT
  by_cases hlo : v.kind < 1
  ·rw [if_pos hlo, CK' rfl (by decide)]
   exact Y8' hs (by rw [i1]; exact hlo)
  rw [if_neg hlo]
  by_cases hhi : 6 < v.kind
  ·rw [if_pos hhi, CK' rfl (by decide)]
   exact Y9' hs (by rw [i1]; exact hlo) (by rw [i1]; exact hhi)
  rw [if_neg hhi]
  obtain ⟨K, hK⟩ : ∃ K : Nat, v.kind = Int.ofNat K := ⟨v.kind.toNat, by simp only [Z0]; omega⟩
  have hKn : v.kind.toNat = K := by rw [hK]; rfl
  have hrk : r.k = Int.ofNat K := i1.trans hK
  have hkr := ST' K hrk
  have hee : errK v.kind.toNat v.num v.text v.list.length v.names.length dep = errE K r dep := by rw [hKn, ← i2, ← i3, ← i4, ← i5]; rfl
  rw [hee]
  have hKc : K = 1 ∨ K = 2 ∨ K = 3 ∨ K = 4 ∨ K = 5 ∨ K = 6 := by
   have h1 : ¬ (K : Int) < 1 := by rw [hK] at hlo; exact hlo
   have h2 : ¬ 6 < (K : Int) := by rw [hK] at hhi; exact hhi
   omega
  have hobj : K ≠ 6 → (v.kind == 6) = false := fun h => beq_eq_false_iff_ne.2 (by rw [hK]; intro e; exact h (Int.ofNat.inj e))
  have hsmall : 1 ≤ K → K ≤ 4 → errE K r dep = 0 → e = 0 ∧ LTri Tryz.prog W (A2' fCk 18) (tms 0 146 (aCk r dep 0)) (oCk r [] 0) (.exit 1) (tms 0 146 []) [] := fun h1 h4 h0 => by
   have hll := UL' h1 h4 h0
   have hnil : v.list = [] := List.eq_nil_of_length_eq_zero (by omega)
   have he0 : e = 0 := by rw [← he, hnil]; rfl
   refine ⟨he0, M3' (d := d) (l := v.list) (names := v.names) (f := fun x => errJ d x (dep + 1)) (by omega) (fun u x hu => by rw [hnil] at hu; cases hu) al i4 (.inr hll) e (by rw [← he, hobj (by omega)]) (.exit 1) [] (by intro h; cases h) (fun _ => ⟨rfl, rfl⟩) (fun h => absurd he0 h)⟩
  rcases hKc with rfl | rfl | rfl | rfl | rfl | rfl
  ·have := ck1 (W := W) (dep := dep) hs fun h0 => by rw [hkr]; exact (hsmall (by decide) (by decide) h0).2
   rw [hkr] at this
   by_cases h0 : errE 1 r dep = 0
   ·rw [(hsmall (by decide) (by decide) h0).1]; exact this
   ·rw [CK' rfl h0] at this ⊢; exact this
  ·have := ck2 (W := W) (dep := dep) hs fun h0 => by rw [hkr]; exact (hsmall (by decide) (by decide) h0).2
   rw [hkr] at this
   by_cases h0 : errE 2 r dep = 0
   ·rw [(hsmall (by decide) (by decide) h0).1]; exact this
   ·rw [CK' rfl h0] at this ⊢; exact this
  ·have := ck3 (W := W) (dep := dep) hs fun h0 => by rw [hkr]; exact (hsmall (by decide) (by decide) h0).2
   rw [hkr] at this
   by_cases h0 : errE 3 r dep = 0
   ·rw [(hsmall (by decide) (by decide) h0).1]; exact this
   ·rw [CK' rfl h0] at this ⊢; exact this
  ·have := ck4 (W := W) (dep := dep) hs fun h0 => by rw [hkr]; exact (hsmall (by decide) (by decide) h0).2
   rw [hkr] at this
   by_cases h0 : errE 4 r dep = 0
   ·rw [(hsmall (by decide) (by decide) h0).1]; exact this
   ·rw [CK' rfl h0] at this ⊢; exact this
  ·by_cases h0 : e = 0
   ·have := ck5X (W := W) (dep := dep) hs fun hz => by
     rw [hkr]
     exact M3' (d := d) (l := v.list) (names := v.names) (f := fun x => errJ d x (dep + 1)) (by omega) (hf (DI' (.inl rfl) hz)) al i4 (.inl hrk) e (by rw [← he, hobj (by decide)]) (.exit 1) [] (by intro h; cases h) (fun _ => ⟨rfl, rfl⟩) (fun h => absurd h0 h)
    rw [hkr] at this
    rw [h0]; exact this
   ·have := ck5T (W := W) (dep := dep) (e := e) hs fun hz => by
     rw [hkr]
     exact M3' (d := d) (l := v.list) (names := v.names) (f := fun x => errJ d x (dep + 1)) (by omega) (hf (DI' (.inl rfl) hz)) al i4 (.inl hrk) e (by rw [← he, hobj (by decide)]) .ret _ (by intro h; cases h) (fun h => absurd h h0) (fun _ => ⟨rfl, rfl⟩)
    rw [hkr] at this
    exact this
  ·have hob : (v.kind == 6) = true := by rw [hK]; rfl
   by_cases h0 : e = 0
   ·have := ck6X (W := W) (dep := dep) hs fun hz => by
     rw [hkr]
     have hnl := HZ' hz
     exact QX' (d := d) (l := v.list) (names := v.names) (f := fun x => errJ d x (dep + 1)) (by omega) (hf (DI' (.inr rfl) hz)) al af i4 i5 (by omega) hrk e (by rw [← he, hob]) (.exit 1) [] (by intro h; cases h) (fun _ => ⟨rfl, rfl⟩) (fun h => absurd h0 h)
    rw [hkr] at this
    rw [h0]; exact this
   ·have := ck6T (W := W) (dep := dep) (e := e) hs fun hz => by
     rw [hkr]
     have hnl := HZ' hz
     exact QX' (d := d) (l := v.list) (names := v.names) (f := fun x => errJ d x (dep + 1)) (by omega) (hf (DI' (.inr rfl) hz)) al af i4 i5 (by omega) hrk e (by rw [← he, hob]) .ret _ (by intro h; cases h) (fun h => absurd h h0) (fun _ => ⟨rfl, rfl⟩)
    rw [hkr] at this
    exact this
end Go.Proofs.YtdphpillcaajpaaGreatDoor.Js
