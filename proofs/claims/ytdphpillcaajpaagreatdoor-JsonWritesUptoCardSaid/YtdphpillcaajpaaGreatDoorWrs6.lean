/- Parts of the proof, merged. -/
import Derived.Test.YtdphpillcaajpaaGreatDoorWrs4
import Derived.Test.YtdphpillcaajpaaGreatDoorWrs5
import Derived.Lib.Strings
import Derived.Test.YtdphpillcaajpaaGreatDoorWrs3
import Derived.Lib.DecodeN
import Derived.Test.YtdphpillcaajpaaGreatDoorEngClosedC
set_option linter.unusedVariables false
set_option linter.unusedSimpArgs false
set_option maxRecDepth 100000
set_option linter.unusedSectionVars false
namespace Go.Proofs.YtdphpillcaajpaaGreatDoor.Js
open Go Go.RowKit Eng Kit
noncomputable section
abbrev fWg : Nat := 21
abbrev fWn : Nat := 39
def cRNm : List AV → Option (AP AV) := mkC gSN (fun p => p.2 ≤ p.1.size ∧ Few p.1.size) (fun _ k => k) (fun p => [sv p.1, iv (Int.ofNat p.2)]) (fun _ => []) (fun p => .leaf .ret [.tuple [iv (Int.ofNat (numF (bts p.1) p.2).1), bv (numF (bts p.1) p.2).2]] [])
def EF' (s : ByteArray) : Bool := (num (bts s)).2 && (Int.ofNat (num (bts s)).1 == (s.size : Int))
def cWn : List AV → Option (AP AV) := mkC gS1 (fun s => Few s.size) (fun _ k => k) (fun s => [sv s]) (fun _ => []) (fun s => .leaf .ret [bv (EF' s)] [])
noncomputable section
abbrev k78' (q0 : ByteArray) : Cnd := ((p' (0 ≤ q0.size ∧ Few q0.size)).a (f' (VW [s' q0,i' 0] [s' q0,i' 0])))
end
theorem ZY' (s : ByteArray) (F : HP) : wRun [(fRNm, cRNm)] (A9' [(fWn, 2, 1, hv (.lit true))]) [] default fWn [sv s] [] [] F = VT.leaf (b' (Int.ofNat (numF (bts s) 0).fst == ↑s.size)) [] 1100 ((k78' s).a ((f' (Wk (AV.v (Value.bool (numF (bts s) 0).snd)) j')).a t')) := by kernel_rfl
theorem ZZ' (s : ByteArray) (F : HP) : wRun [(fRNm, cRNm)] (A9' [(fWn, 2, 1, hv (.lit false)), (fWn, 2, 6, hv (bv false))]) [] default fWn [sv s] [] [] F = VT.leaf (b' false) [] 1100 ((k78' s).a ((f' (Wk (AV.v (Value.bool (numF (bts s) 0).snd)) g')).a (k13'.a t'))) := by kernel_rfl
def oWg (r : Rj) : LH := [(1000, .cells (vmap r.cells) tJs)]
def aWg (dep j : Nat) : List (Nat × AV) := [(1, iv (Int.ofNat dep)), (2, .ptr 1000 0), (5, iv (Int.ofNat j))]
def aWi (dep j k : Nat) : List (Nat × AV) := [(1, iv (Int.ofNat dep)), (2, .ptr 1000 0), (5, iv (Int.ofNat j)), (6, iv (Int.ofNat k))]
def iWg : List Nat := [1, 2, 4, 5]
def iWi : List Nat := [1, 2, 4, 5, 6]
def hWi (k : Nat) (nk nm : ByteArray) (obj same : Bool) : B8' := A9' [(fWg, 13, 2, hv (.lit true)), (fWg, 13, 6, hv (.lit obj)), (fWg, 15, 4, hv (sv nk)), (fWg, 15, 9, hv (sv nm)), (fWg, 15, 10, hv (.lit same)), (fWg, 14, 1, hv (iv (Int.ofNat (k + 1))))]
theorem YK' (W : World) (r : Rj) (dep j : Nat) (F : HP) : AR' [] (A9' [(fWg, 13, 2, hv (.lit false))]) [] W fWg (A2' fWg 13) (tms 0 145 (aWi dep j j)) (oWg r) [1000] iWi F = VT.leaf (AX.exit 2,[i' dep,AV.ptr 1000 0,a',i' j,i' j],145) [some (AO.cells [z' r.k,z' r.n,s' r.t,AV.v (Value.slice r.la r.ll r.lc),AV.v (Value.slice r.na r.nl r.nc)] 50)] 1100 ((k17' j).a t') := by kernel_rfl
noncomputable section
abbrev k79' : Cnd := ((p' (true = true)).a (f' (i' 5 = i' 5)))
end
theorem oIK_eq (W : World) (r : Rj) (dep j : Nat) (F : HP) : AR' [] (A9' [(fWg, 13, 2, hv (.lit true)), (fWg, 13, 6, hv (.lit false))]) [] W fWg (A2' fWg 13) (tms 0 145 (aWi dep j 0)) (oWg (kR 5 r)) [1000] iWi F = VT.leaf (AX.exit 2,[i' dep,AV.ptr 1000 0,a',i' j,i' 0],145) [some (AO.cells [i' 5,z' r.n,s' r.t,AV.v (Value.slice r.la r.ll r.lc),AV.v (Value.slice r.na r.nl r.nc)] 50)] 1100 ((f' (Wk (b' (decide (Int.ofNat 0 < Int.ofNat j))) j')).a (k79'.a (k32'.a t'))) := by kernel_rfl
noncomputable section
abbrev k80' : Cnd := ((p' (true = true)).a (f' (i' 6 = i' 6)))
end
theorem oIN_eq (W : World) (r : Rj) (b : Addr) (nk nm : ByteArray) (dep j k : Nat) (F : HP) : AR' [] (hWi k nk nm true false) [] W fWg (A2' fWg 13) (tms 0 145 (aWi dep j k)) (oWg (kR 6 { r with na := some b })) [1000] iWi F = VT.leaf (AX.normal,[i' dep,AV.ptr 1000 0,a',i' j,i' (k + 1)],145) [some (AO.cells [i' 6,z' r.n,s' r.t,AV.v (Value.slice r.la r.ll r.lc),AV.v (Value.slice (some b) r.nl r.nc)] 50)] 1100 ((k18' k j).a (k80'.a (k24'.a (k8'.a ((k55' k r).a ((k56' W b k nk).a (k8'.a ((k55' j r).a ((k56' W b j nm).a ((f' (Wk (b' (nk.toList == nm.toList)) g')).a ((k7' k).a t'))))))))))) := by kernel_rfl
theorem oIY_eq (W : World) (r : Rj) (b : Addr) (nk nm : ByteArray) (dep j k : Nat) (F : HP) : AR' [] (hWi k nk nm true true) [] W fWg (A2' fWg 13) (tms 0 145 (aWi dep j k)) (oWg (kR 6 { r with na := some b })) [1000] iWi F = VT.leaf (AX.ret,[i' dep,AV.ptr 1000 0,i' 5,i' j,i' k],145) [some (AO.cells [i' 6,z' r.n,s' r.t,AV.v (Value.slice r.la r.ll r.lc),AV.v (Value.slice (some b) r.nl r.nc)] 50)] 1100 ((k18' k j).a (k80'.a (k24'.a (k8'.a ((k55' k r).a ((k56' W b k nk).a (k8'.a ((k55' j r).a ((k56' W b j nm).a ((f' (Wk (b' (nk.toList == nm.toList)) j')).a t')))))))))) := by kernel_rfl
def gWg (tmps : List AV) : AP Nat := match getL tmps 2 with
 | .ptr a _ => .ret a
 | _ => .fail "Wrong"
def nm1k (a : Nat) : Nat → Nat := fun _ => a
def lIn (r : Rj) (dep j : Nat) : List AV → AP (AX × List AV) := mkL gWg (fun _ => True) nm1k (fun _ => tms 0 145 (aWi dep j 0)) (fun _ => oWg r) (fun _ => .leaf (.exit 2) (tms 0 145 (aWg dep j)) (oWg r))
def lInR (r : Rj) (dep j : Nat) : List AV → AP (AX × List AV) := mkL gWg (fun _ => True) nm1k (fun _ => tms 0 145 (aWi dep j 0)) (fun _ => oWg r) (fun _ => .leaf .ret (tms 0 145 [(4, iv 5)]) [])
def hWg (j dep : Nat) (x : Rj) (bad : Bool) : B8' := A9' [(fWg, 10, 4, hv (.lit true)), (fWg, 17, 4, hv (aggJ x)), (fWg, 17, 6, hv (iv (Int.ofNat (dep + 1)))), (fWg, 18, 1, hv (.lit bad)), (fWg, 11, 1, hv (iv (Int.ofNat (j + 1))))]
theorem a2' (W : World) (r : Rj) (dep : Nat) (F : HP) : AR' [] (A9' [(fWg, 10, 4, hv (.lit false))]) [] W fWg (A2' fWg 10) (tms 0 145 (aWg dep r.ll)) (oWg r) [1000, 1100] iWg F = VT.leaf (AX.exit 0,[i' dep,AV.ptr 1000 0,a',i' r.ll],145) [some (AO.cells [z' r.k,z' r.n,s' r.t,AV.v (Value.slice r.la r.ll r.lc),AV.v (Value.slice r.na r.nl r.nc)] 50),none] 1100 (k8'.a ((k60' r).a t')) := by kernel_rfl
noncomputable section
abbrev k81' (q0 : Rj) (q1 : Addr) (q2 q3 : Nat) : Cnd := (p' ((fWg,13,A2' fWg 13,lIn (Rj.mk q0.k q0.n q0.t (some q1) q0.ll q0.lc q0.na q0.nl q0.nc) q2 q3).snd.snd.fst = (fWg,13,A2' fWg 13,lIn (Rj.mk q0.k q0.n q0.t (some q1) q0.ll q0.lc q0.na q0.nl q0.nc) q2 q3).snd.snd.fst))
abbrev k82' (q0 q1 q2 : Nat) (q3 : Addr) (q4 : Rj) : Cnd := (p' (VW (a'::i' q0::AV.ptr q1 0::a'::a'::i' q2::i' 0::ra16 (ra16 (ra16 (ra16 (ra16 (ra16 (a'::a'::a'::i' q2::AV.ptr q1 3::AV.v (Value.slice (some q3) q4.ll q4.lc)::z' ↑q4.ll::j'::ra16 (ra16 (a'::a'::[]))))))))) (a'::i' q0::AV.ptr q1 0::a'::a'::i' q2::i' 0::ra16 (ra16 (ra16 (ra16 (ra16 (ra16 (ra16 (ra16 (ra8 (a'::a'::[]))))))))))))
abbrev k83' (q0 : Rj) (q1 : Addr) : Cnd := (p' (OW (AO.cells [z' q0.k,z' q0.n,s' q0.t,AV.v (Value.slice (some q1) q0.ll q0.lc),AV.v (Value.slice q0.na q0.nl q0.nc)] 50) (AO.cells [z' q0.k,z' q0.n,s' q0.t,AV.v (Value.slice (some q1) q0.ll q0.lc),AV.v (Value.slice q0.na q0.nl q0.nc)] 50)))
end
theorem a1' (W : World) (r x : Rj) (a : Addr) (dep j : Nat) (F : HP) : AR' [(fWg, cCk x (dep + 1) 0)] (hWg j dep x false) [(fWg, 13, A2' fWg 13, lIn { r with la := some a } dep j)] W fWg (A2' fWg 10) (tms 0 145 (aWg dep j)) (oWg { r with la := some a }) [1000, 1100] iWg F = VT.leaf (AX.normal,[i' dep,AV.ptr 1100 0,a',i' (j + 1)],145) [none,some (AO.cells [z' r.k,z' r.n,s' r.t,AV.v (Value.slice (some a) r.ll r.lc),AV.v (Value.slice r.na r.nl r.nc)] 50)] 1101 (k8'.a ((k57' j r).a ((k81' r a dep j).a (k12'.a ((k82' dep 1000 j a r).a ((k83' r a).a (k8'.a ((k58' j r).a ((k67' W a j x).a ((k7' dep).a ((k69' x dep).a (k32'.a ((k7' j).a t'))))))))))))) := by kernel_rfl
theorem a0' (W : World) (r x : Rj) (a : Addr) (dep j : Nat) (e : Int) (F : HP) : AR' [(fWg, cCk x (dep + 1) e)] (hWg j dep x true) [(fWg, 13, A2' fWg 13, lIn { r with la := some a } dep j)] W fWg (A2' fWg 10) (tms 0 145 (aWg dep j)) (oWg { r with la := some a }) [1000, 1100] iWg F = VT.leaf (AX.ret,[i' dep,AV.ptr 1100 0,z' e,i' j],145) [none,some (AO.cells [z' r.k,z' r.n,s' r.t,AV.v (Value.slice (some a) r.ll r.lc),AV.v (Value.slice r.na r.nl r.nc)] 50)] 1101 (k8'.a ((k57' j r).a ((k81' r a dep j).a (k12'.a ((k82' dep 1000 j a r).a ((k83' r a).a (k8'.a ((k58' j r).a ((k67' W a j x).a ((k7' dep).a ((k69' x dep).a ((k70' e).a t')))))))))))) := by kernel_rfl
theorem a3' (W : World) (r : Rj) (dep j : Nat) (F : HP) : AR' [] (A9' [(fWg, 10, 4, hv (.lit true))]) [(fWg, 13, A2' fWg 13, lInR r dep j)] W fWg (A2' fWg 10) (tms 0 145 (aWg dep j)) (oWg r) [1000, 1100] iWg F = VT.leaf (AX.ret,[a',a',i' 5,a'],145) [none,none] 1100 (k8'.a ((k57' j r).a ((p' ((fWg,13,A2' fWg 13,lInR r dep j).snd.snd.fst = (fWg,13,A2' fWg 13,lInR r dep j).snd.snd.fst)).a (k12'.a ((p' (VW (a'::i' dep::AV.ptr 1000 0::a'::a'::i' j::i' 0::ra16 (ra16 (ra16 (ra16 (ra16 (ra16 (a'::a'::a'::i' j::AV.ptr 1000 3::AV.v (Value.slice r.la r.ll r.lc)::z' ↑r.ll::j'::ra16 (ra16 (a'::a'::[]))))))))) (a'::i' dep::AV.ptr 1000 0::a'::a'::i' j::i' 0::ra16 (ra16 (ra16 (ra16 (ra16 (ra16 (ra16 (ra16 (ra8 (a'::a'::[])))))))))))).a ((k64' r).a t')))))) := by kernel_rfl
def lWgE (p : Prop) (r : Rj) (dep : Nat) : List AV → AP (AX × List AV) := mkL gWg (fun _ => p) nm1k (fun _ => tms 0 145 (aWg dep 0)) (fun _ => oWg r) (fun _ => .leaf (.exit 0) (tms 0 145 []) [])
def lWgR (p : Prop) (r : Rj) (dep : Nat) (e : Int) : List AV → AP (AX × List AV) := mkL gWg (fun _ => p) nm1k (fun _ => tms 0 145 (aWg dep 0)) (fun _ => oWg r) (fun _ => .leaf .ret (tms 0 145 [(4, iv e)]) [])
def hK (K : Nat) (lo hi : Bool) : B8' := A9' ([(fWg, 1, 2, hv (.lit lo)), (fWg, 1, 6, hv (.lit hi)), (fWg, 3, 2, hv (.lit (Nat.blt 4 K))), (fWg, 5, 2, hv (.lit (!Nat.beq K 2))), (fWg, 5, 21, hv (.lit (Nat.blt K 3))), (fWg, 5, 31, hv (.lit (Nat.blt 4 K))), (fWg, 7, 2, hv (.lit (Nat.beq K 3))), (fWg, 7, 12, hv (.lit (Nat.blt K 5))), (fWg, 7, 23, hv (.lit (!Nat.beq K 6))), (fWg, 7, 34, hv (.lit (Nat.beq K 6)))]
 ++ (match Nat.beq K 2 with | true => [] | false => [(fWg, 5, 11, hv (.lit false)), (fWg, 5, 16, hv (.lit false))]))
theorem WB' (W : World) (r : Rj) (dep : Nat) (F : HP) : wRun [(fWn, cWn)] (A9' [(fWg, 1, 2, hv (.lit true))]) [] W fWg [aggJ r, iv (Int.ofNat dep)] [] [] F = VT.leaf (i' 30) [] 1101 ((k61' r).a ((k75' r).a t')) := by kernel_rfl
theorem WC' (W : World) (r : Rj) (dep : Nat) (F : HP) : wRun [(fWn, cWn)] (A9' [(fWg, 1, 2, hv (.lit false)), (fWg, 1, 6, hv (.lit true))]) [] W fWg [aggJ r, iv (Int.ofNat dep)] [] [] F = VT.leaf (i' 30) [] 1101 ((k61' r).a ((k76' r).a ((k61' r).a ((k77' r).a t')))) := by kernel_rfl
theorem a7' (W : World) (p : Prop) (r : Rj) (dep : Nat) (F : HP) : wRun [(fWn, cWn)] (hK 1 false false) [(fWg, 10, A2' fWg 10, lWgE p (kR 1 r) dep)] W fWg [aggJ (kR 1 r), iv (Int.ofNat dep)] [] [] F = VT.ite (r.n != Int.ofNat 0) (VT.leaf (i' 32) [] 1101 (((p' (true = true)).a (f' (i' 1 = i' 1))).a ((f' (Wk (b' false) g')).a (((p' (true = true)).a (f' (i' 1 = i' 1))).a ((f' (Wk (b' false) g')).a (((p' (true = true)).a (f' (i' 1 = i' 1))).a ((f' (Wk (b' false) g')).a (((p' (true = true)).a (f' (i' 1 = i' 1))).a ((f' (Wk (b' true) j')).a (((p' (true = true)).a (f' (z' r.n = z' r.n))).a t')))))))))) (VT.ite (!r.t.toList == []) (VT.leaf (i' 32) [] 1101 (((p' (true = true)).a (f' (i' 1 = i' 1))).a ((f' (Wk (b' false) g')).a (((p' (true = true)).a (f' (i' 1 = i' 1))).a ((f' (Wk (b' false) g')).a (((p' (true = true)).a (f' (i' 1 = i' 1))).a ((f' (Wk (b' false) g')).a (((p' (true = true)).a (f' (i' 1 = i' 1))).a ((f' (Wk (b' true) j')).a (((p' (true = true)).a (f' (z' r.n = z' r.n))).a (((p' (true = true)).a (f' (z' r.n = z' r.n))).a ((f' (Wk (b' (decide (r.n < Int.ofNat 0))) g')).a (((p' (true = true)).a (f' (z' r.n = z' r.n))).a ((f' (Wk (b' (decide (r.n > Int.ofNat 1))) g')).a (((p' (true = true)).a (f' (i' 1 = i' 1))).a ((f' (Wk (b' true) j')).a (((p' (true = true)).a (f' (s' r.t = s' r.t))).a t'))))))))))))))))) (VT.ite (decide (↑r.ll > Int.ofNat 0)) (VT.leaf (i' 32) [] 1101 (((p' (true = true)).a (f' (i' 1 = i' 1))).a ((f' (Wk (b' false) g')).a (((p' (true = true)).a (f' (i' 1 = i' 1))).a ((f' (Wk (b' false) g')).a (((p' (true = true)).a (f' (i' 1 = i' 1))).a ((f' (Wk (b' false) g')).a (((p' (true = true)).a (f' (i' 1 = i' 1))).a ((f' (Wk (b' true) j')).a (((p' (true = true)).a (f' (z' r.n = z' r.n))).a (((p' (true = true)).a (f' (z' r.n = z' r.n))).a ((f' (Wk (b' (decide (r.n < Int.ofNat 0))) g')).a (((p' (true = true)).a (f' (z' r.n = z' r.n))).a ((f' (Wk (b' (decide (r.n > Int.ofNat 1))) g')).a (((p' (true = true)).a (f' (i' 1 = i' 1))).a ((f' (Wk (b' true) j')).a (((p' (true = true)).a (f' (s' r.t = s' r.t))).a (((p' (true = true)).a (f' (i' 1 = i' 1))).a ((f' (Wk (b' false) g')).a (((p' (true = true)).a (f' (i' 1 = i' 1))).a ((f' (Wk (b' false) g')).a (((p' (true = true)).a (f' (i' 1 = i' 1))).a ((f' (Wk (b' true) j')).a ((f' (true = true)).a t')))))))))))))))))))))))) (VT.ite (decide (↑r.nl > Int.ofNat 0)) (VT.leaf (i' 32) [] 1101 (((p' (true = true)).a (f' (i' 1 = i' 1))).a ((f' (Wk (b' false) g')).a (((p' (true = true)).a (f' (i' 1 = i' 1))).a ((f' (Wk (b' false) g')).a (((p' (true = true)).a (f' (i' 1 = i' 1))).a ((f' (Wk (b' false) g')).a (((p' (true = true)).a (f' (i' 1 = i' 1))).a ((f' (Wk (b' true) j')).a (((p' (true = true)).a (f' (z' r.n = z' r.n))).a (((p' (true = true)).a (f' (z' r.n = z' r.n))).a ((f' (Wk (b' (decide (r.n < Int.ofNat 0))) g')).a (((p' (true = true)).a (f' (z' r.n = z' r.n))).a ((f' (Wk (b' (decide (r.n > Int.ofNat 1))) g')).a (((p' (true = true)).a (f' (i' 1 = i' 1))).a ((f' (Wk (b' true) j')).a (((p' (true = true)).a (f' (s' r.t = s' r.t))).a (((p' (true = true)).a (f' (i' 1 = i' 1))).a ((f' (Wk (b' false) g')).a (((p' (true = true)).a (f' (i' 1 = i' 1))).a ((f' (Wk (b' false) g')).a (((p' (true = true)).a (f' (i' 1 = i' 1))).a ((f' (Wk (b' true) j')).a ((f' (true = true)).a (((p' (true = true)).a (f' (i' 1 = i' 1))).a ((f' (Wk (b' true) j')).a ((f' (true = true)).a t'))))))))))))))))))))))))))) (VT.leaf (i' 0) [] 1101 (((p' (true = true)).a (f' (i' 1 = i' 1))).a ((f' (Wk (b' false) g')).a (((p' (true = true)).a (f' (i' 1 = i' 1))).a ((f' (Wk (b' false) g')).a (((p' (true = true)).a (f' (i' 1 = i' 1))).a ((f' (Wk (b' false) g')).a (((p' (true = true)).a (f' (i' 1 = i' 1))).a ((f' (Wk (b' true) j')).a (((p' (true = true)).a (f' (z' r.n = z' r.n))).a (((p' (true = true)).a (f' (z' r.n = z' r.n))).a ((f' (Wk (b' (decide (r.n < Int.ofNat 0))) g')).a (((p' (true = true)).a (f' (z' r.n = z' r.n))).a ((f' (Wk (b' (decide (r.n > Int.ofNat 1))) g')).a (((p' (true = true)).a (f' (i' 1 = i' 1))).a ((f' (Wk (b' true) j')).a (((p' (true = true)).a (f' (s' r.t = s' r.t))).a (((p' (true = true)).a (f' (i' 1 = i' 1))).a ((f' (Wk (b' false) g')).a (((p' (true = true)).a (f' (i' 1 = i' 1))).a ((f' (Wk (b' false) g')).a (((p' (true = true)).a (f' (i' 1 = i' 1))).a ((f' (Wk (b' true) j')).a ((f' (true = true)).a (((p' (true = true)).a (f' (i' 1 = i' 1))).a ((f' (Wk (b' true) j')).a ((f' (true = true)).a (((p' (true = true)).a (f' (i' 1 = i' 1))).a ((f' (Wk (b' false) g')).a ((p' ((fWg,10,A2' fWg 10,lWgE p (kR 1 r) dep).snd.snd.fst = (fWg,10,A2' fWg 10,lWgE p (kR 1 r) dep).snd.snd.fst)).a ((Cnd.p p).a ((p' (VW [AV.agg [i' 1,z' r.n,s' r.t,AV.v (Value.slice r.la r.ll r.lc),AV.v (Value.slice r.na r.nl r.nc)],i' dep,AV.ptr 1100 0,u',i' 0,i' 0,u',u',AV.ptr 1100 0,i' 1,g',g',AV.ptr 1100 0,i' 1,g',g',AV.ptr 1100 0,i' 1,g',g',u',u',g',AV.ptr 1100 0,i' 1,j',j',AV.ptr 1100 1,z' r.n,b' (r.n != Int.ofNat 0),b' (r.n != Int.ofNat 0),g',AV.ptr 1100 1,z' r.n,g',g',g',AV.ptr 1100 1,z' r.n,g',g',g',AV.ptr 1100 0,i' 1,j',j',AV.ptr 1100 2,s' r.t,AV.v (Value.bool !r.t.toList == []),AV.v (Value.bool !r.t.toList == []),AV.v (Value.bool !r.t.toList == []),g',AV.ptr 1100 0,i' 1,g',g',u',u',u',g',g',AV.ptr 1100 0,i' 1,g',g',u',u',u',u',g',g',AV.ptr 1100 0,i' 1,j',j',AV.ptr 1100 3,AV.v (Value.slice r.la r.ll r.lc),z' ↑r.ll,b' (decide (↑r.ll > Int.ofNat 0)),b' (decide (↑r.ll > Int.ofNat 0)),b' (decide (↑r.ll > Int.ofNat 0)),g',AV.ptr 1100 0,i' 1,j',j',AV.ptr 1100 4,AV.v (Value.slice r.na r.nl r.nc),z' ↑r.nl,b' (decide (↑r.nl > Int.ofNat 0)),b' (decide (↑r.nl > Int.ofNat 0)),b' (decide (↑r.nl > Int.ofNat 0)),g',AV.ptr 1100 0,i' 1,g',g',u',u',u',u',u',u',u',g',g',u',u',u',u',u',u',u',u',u',u',u',u',u',u',u',u',u',u',u',u',u',u',u',u',u',u',u',u',u',u',u',u',u',u',u',u',u',u',u'] (a'::i' dep::AV.ptr 1100 0::a'::a'::i' 0::ra16 (ra16 (ra16 (ra16 (ra16 (ra16 (ra16 (ra16 (ra8 (a'::a'::a'::[])))))))))))).a (f' (OW (AO.cells [i' 1,z' r.n,s' r.t,AV.v (Value.slice r.la r.ll r.lc),AV.v (Value.slice r.na r.nl r.nc)] 50) (AO.cells [i' 1,z' r.n,s' r.t,AV.v (Value.slice r.la r.ll r.lc),AV.v (Value.slice r.na r.nl r.nc)] 50)))))))))))))))))))))))))))))))))))))) := by kernel_rfl
theorem a6' (W : World) (p : Prop) (r : Rj) (dep : Nat) (F : HP) : wRun [(fWn, cWn)] (hK 2 false false) [(fWg, 10, A2' fWg 10, lWgE p (kR 2 r) dep)] W fWg [aggJ (kR 2 r), iv (Int.ofNat dep)] [] [] F = VT.ite (decide (r.n < Int.ofNat 0)) (VT.leaf (i' 32) [] 1101 (((p' (true = true)).a (f' (i' 2 = i' 2))).a ((f' (Wk (b' false) g')).a (((p' (true = true)).a (f' (i' 2 = i' 2))).a ((f' (Wk (b' false) g')).a (((p' (true = true)).a (f' (i' 2 = i' 2))).a ((f' (Wk (b' false) g')).a (((p' (true = true)).a (f' (i' 2 = i' 2))).a ((f' (Wk (b' false) g')).a (((p' (true = true)).a (f' (z' r.n = z' r.n))).a t')))))))))) (VT.ite (decide (r.n > Int.ofNat 1)) (VT.leaf (i' 32) [] 1101 (((p' (true = true)).a (f' (i' 2 = i' 2))).a ((f' (Wk (b' false) g')).a (((p' (true = true)).a (f' (i' 2 = i' 2))).a ((f' (Wk (b' false) g')).a (((p' (true = true)).a (f' (i' 2 = i' 2))).a ((f' (Wk (b' false) g')).a (((p' (true = true)).a (f' (i' 2 = i' 2))).a ((f' (Wk (b' false) g')).a (((p' (true = true)).a (f' (z' r.n = z' r.n))).a (((p' (true = true)).a (f' (z' r.n = z' r.n))).a t'))))))))))) (VT.ite (!r.t.toList == []) (VT.leaf (i' 32) [] 1101 (((p' (true = true)).a (f' (i' 2 = i' 2))).a ((f' (Wk (b' false) g')).a (((p' (true = true)).a (f' (i' 2 = i' 2))).a ((f' (Wk (b' false) g')).a (((p' (true = true)).a (f' (i' 2 = i' 2))).a ((f' (Wk (b' false) g')).a (((p' (true = true)).a (f' (i' 2 = i' 2))).a ((f' (Wk (b' false) g')).a (((p' (true = true)).a (f' (z' r.n = z' r.n))).a (((p' (true = true)).a (f' (z' r.n = z' r.n))).a (((p' (true = true)).a (f' (i' 2 = i' 2))).a ((f' (Wk (b' true) j')).a (((p' (true = true)).a (f' (s' r.t = s' r.t))).a t')))))))))))))) (VT.ite (decide (↑r.ll > Int.ofNat 0)) (VT.leaf (i' 32) [] 1101 (((p' (true = true)).a (f' (i' 2 = i' 2))).a ((f' (Wk (b' false) g')).a (((p' (true = true)).a (f' (i' 2 = i' 2))).a ((f' (Wk (b' false) g')).a (((p' (true = true)).a (f' (i' 2 = i' 2))).a ((f' (Wk (b' false) g')).a (((p' (true = true)).a (f' (i' 2 = i' 2))).a ((f' (Wk (b' false) g')).a (((p' (true = true)).a (f' (z' r.n = z' r.n))).a (((p' (true = true)).a (f' (z' r.n = z' r.n))).a (((p' (true = true)).a (f' (i' 2 = i' 2))).a ((f' (Wk (b' true) j')).a (((p' (true = true)).a (f' (s' r.t = s' r.t))).a (((p' (true = true)).a (f' (i' 2 = i' 2))).a ((f' (Wk (b' false) g')).a (((p' (true = true)).a (f' (i' 2 = i' 2))).a ((f' (Wk (b' false) g')).a (((p' (true = true)).a (f' (i' 2 = i' 2))).a ((f' (Wk (b' true) j')).a ((f' (true = true)).a t'))))))))))))))))))))) (VT.ite (decide (↑r.nl > Int.ofNat 0)) (VT.leaf (i' 32) [] 1101 (((p' (true = true)).a (f' (i' 2 = i' 2))).a ((f' (Wk (b' false) g')).a (((p' (true = true)).a (f' (i' 2 = i' 2))).a ((f' (Wk (b' false) g')).a (((p' (true = true)).a (f' (i' 2 = i' 2))).a ((f' (Wk (b' false) g')).a (((p' (true = true)).a (f' (i' 2 = i' 2))).a ((f' (Wk (b' false) g')).a (((p' (true = true)).a (f' (z' r.n = z' r.n))).a (((p' (true = true)).a (f' (z' r.n = z' r.n))).a (((p' (true = true)).a (f' (i' 2 = i' 2))).a ((f' (Wk (b' true) j')).a (((p' (true = true)).a (f' (s' r.t = s' r.t))).a (((p' (true = true)).a (f' (i' 2 = i' 2))).a ((f' (Wk (b' false) g')).a (((p' (true = true)).a (f' (i' 2 = i' 2))).a ((f' (Wk (b' false) g')).a (((p' (true = true)).a (f' (i' 2 = i' 2))).a ((f' (Wk (b' true) j')).a ((f' (true = true)).a (((p' (true = true)).a (f' (i' 2 = i' 2))).a ((f' (Wk (b' true) j')).a ((f' (true = true)).a t')))))))))))))))))))))))) (VT.leaf (i' 0) [] 1101 (((p' (true = true)).a (f' (i' 2 = i' 2))).a ((f' (Wk (b' false) g')).a (((p' (true = true)).a (f' (i' 2 = i' 2))).a ((f' (Wk (b' false) g')).a (((p' (true = true)).a (f' (i' 2 = i' 2))).a ((f' (Wk (b' false) g')).a (((p' (true = true)).a (f' (i' 2 = i' 2))).a ((f' (Wk (b' false) g')).a (((p' (true = true)).a (f' (z' r.n = z' r.n))).a (((p' (true = true)).a (f' (z' r.n = z' r.n))).a (((p' (true = true)).a (f' (i' 2 = i' 2))).a ((f' (Wk (b' true) j')).a (((p' (true = true)).a (f' (s' r.t = s' r.t))).a (((p' (true = true)).a (f' (i' 2 = i' 2))).a ((f' (Wk (b' false) g')).a (((p' (true = true)).a (f' (i' 2 = i' 2))).a ((f' (Wk (b' false) g')).a (((p' (true = true)).a (f' (i' 2 = i' 2))).a ((f' (Wk (b' true) j')).a ((f' (true = true)).a (((p' (true = true)).a (f' (i' 2 = i' 2))).a ((f' (Wk (b' true) j')).a ((f' (true = true)).a (((p' (true = true)).a (f' (i' 2 = i' 2))).a ((f' (Wk (b' false) g')).a ((p' ((fWg,10,A2' fWg 10,lWgE p (kR 2 r) dep).snd.snd.fst = (fWg,10,A2' fWg 10,lWgE p (kR 2 r) dep).snd.snd.fst)).a ((Cnd.p p).a ((p' (VW [AV.agg [i' 2,z' r.n,s' r.t,AV.v (Value.slice r.la r.ll r.lc),AV.v (Value.slice r.na r.nl r.nc)],i' dep,AV.ptr 1100 0,u',i' 0,i' 0,u',u',AV.ptr 1100 0,i' 2,g',g',AV.ptr 1100 0,i' 2,g',g',AV.ptr 1100 0,i' 2,g',g',u',u',g',AV.ptr 1100 0,i' 2,g',g',u',u',u',g',g',AV.ptr 1100 1,z' r.n,b' (decide (r.n < Int.ofNat 0)),b' (decide (r.n < Int.ofNat 0)),g',AV.ptr 1100 1,z' r.n,b' (decide (r.n > Int.ofNat 1)),b' (decide (r.n > Int.ofNat 1)),g',AV.ptr 1100 0,i' 2,j',j',AV.ptr 1100 2,s' r.t,AV.v (Value.bool !r.t.toList == []),AV.v (Value.bool !r.t.toList == []),AV.v (Value.bool !r.t.toList == []),g',AV.ptr 1100 0,i' 2,g',g',u',u',u',g',g',AV.ptr 1100 0,i' 2,g',g',u',u',u',u',g',g',AV.ptr 1100 0,i' 2,j',j',AV.ptr 1100 3,AV.v (Value.slice r.la r.ll r.lc),z' ↑r.ll,b' (decide (↑r.ll > Int.ofNat 0)),b' (decide (↑r.ll > Int.ofNat 0)),b' (decide (↑r.ll > Int.ofNat 0)),g',AV.ptr 1100 0,i' 2,j',j',AV.ptr 1100 4,AV.v (Value.slice r.na r.nl r.nc),z' ↑r.nl,b' (decide (↑r.nl > Int.ofNat 0)),b' (decide (↑r.nl > Int.ofNat 0)),b' (decide (↑r.nl > Int.ofNat 0)),g',AV.ptr 1100 0,i' 2,g',g',u',u',u',u',u',u',u',g',g',u',u',u',u',u',u',u',u',u',u',u',u',u',u',u',u',u',u',u',u',u',u',u',u',u',u',u',u',u',u',u',u',u',u',u',u',u',u',u'] (a'::i' dep::AV.ptr 1100 0::a'::a'::i' 0::ra16 (ra16 (ra16 (ra16 (ra16 (ra16 (ra16 (ra16 (ra8 (a'::a'::a'::[])))))))))))).a (f' (OW (AO.cells [i' 2,z' r.n,s' r.t,AV.v (Value.slice r.la r.ll r.lc),AV.v (Value.slice r.na r.nl r.nc)] 50) (AO.cells [i' 2,z' r.n,s' r.t,AV.v (Value.slice r.la r.ll r.lc),AV.v (Value.slice r.na r.nl r.nc)] 50)))))))))))))))))))))))))))))))))))) := by kernel_rfl
theorem a5' (W : World) (p : Prop) (r : Rj) (dep : Nat) (F : HP) : wRun [(fWn, cWn)] (hK 3 false false) [(fWg, 10, A2' fWg 10, lWgE p (kR 3 r) dep)] W fWg [aggJ (kR 3 r), iv (Int.ofNat dep)] [] [] F = VT.ite (r.n != Int.ofNat 0) (VT.leaf (i' 32) [] 1101 (((p' (true = true)).a (f' (i' 3 = i' 3))).a ((f' (Wk (b' false) g')).a (((p' (true = true)).a (f' (i' 3 = i' 3))).a ((f' (Wk (b' false) g')).a (((p' (true = true)).a (f' (i' 3 = i' 3))).a ((f' (Wk (b' false) g')).a (((p' (true = true)).a (f' (i' 3 = i' 3))).a ((f' (Wk (b' true) j')).a (((p' (true = true)).a (f' (z' r.n = z' r.n))).a t')))))))))) (VT.ite (!EF' r.t) (VT.leaf (i' 32) [] 1101 (((p' (true = true)).a (f' (i' 3 = i' 3))).a ((f' (Wk (b' false) g')).a (((p' (true = true)).a (f' (i' 3 = i' 3))).a ((f' (Wk (b' false) g')).a (((p' (true = true)).a (f' (i' 3 = i' 3))).a ((f' (Wk (b' false) g')).a (((p' (true = true)).a (f' (i' 3 = i' 3))).a ((f' (Wk (b' true) j')).a (((p' (true = true)).a (f' (z' r.n = z' r.n))).a (((p' (true = true)).a (f' (z' r.n = z' r.n))).a ((f' (Wk (b' (decide (r.n < Int.ofNat 0))) g')).a (((p' (true = true)).a (f' (z' r.n = z' r.n))).a ((f' (Wk (b' (decide (r.n > Int.ofNat 1))) g')).a (((p' (true = true)).a (f' (i' 3 = i' 3))).a ((f' (Wk (b' false) g')).a (((p' (true = true)).a (f' (i' 3 = i' 3))).a ((f' (Wk (b' false) g')).a (((p' (true = true)).a (f' (i' 3 = i' 3))).a ((f' (Wk (b' true) j')).a (((p' (true = true)).a (f' (s' r.t = s' r.t))).a (((p' (Few r.t.size)).a (f' (VW [s' r.t] [s' r.t]))).a t')))))))))))))))))))))) (VT.ite (decide (↑r.ll > Int.ofNat 0)) (VT.leaf (i' 32) [] 1101 (((p' (true = true)).a (f' (i' 3 = i' 3))).a ((f' (Wk (b' false) g')).a (((p' (true = true)).a (f' (i' 3 = i' 3))).a ((f' (Wk (b' false) g')).a (((p' (true = true)).a (f' (i' 3 = i' 3))).a ((f' (Wk (b' false) g')).a (((p' (true = true)).a (f' (i' 3 = i' 3))).a ((f' (Wk (b' true) j')).a (((p' (true = true)).a (f' (z' r.n = z' r.n))).a (((p' (true = true)).a (f' (z' r.n = z' r.n))).a ((f' (Wk (b' (decide (r.n < Int.ofNat 0))) g')).a (((p' (true = true)).a (f' (z' r.n = z' r.n))).a ((f' (Wk (b' (decide (r.n > Int.ofNat 1))) g')).a (((p' (true = true)).a (f' (i' 3 = i' 3))).a ((f' (Wk (b' false) g')).a (((p' (true = true)).a (f' (i' 3 = i' 3))).a ((f' (Wk (b' false) g')).a (((p' (true = true)).a (f' (i' 3 = i' 3))).a ((f' (Wk (b' true) j')).a (((p' (true = true)).a (f' (s' r.t = s' r.t))).a (((p' (Few r.t.size)).a (f' (VW [s' r.t] [s' r.t]))).a (((p' (true = true)).a (f' (i' 3 = i' 3))).a ((f' (Wk (b' true) j')).a ((f' (true = true)).a t'))))))))))))))))))))))))) (VT.ite (decide (↑r.nl > Int.ofNat 0)) (VT.leaf (i' 32) [] 1101 (((p' (true = true)).a (f' (i' 3 = i' 3))).a ((f' (Wk (b' false) g')).a (((p' (true = true)).a (f' (i' 3 = i' 3))).a ((f' (Wk (b' false) g')).a (((p' (true = true)).a (f' (i' 3 = i' 3))).a ((f' (Wk (b' false) g')).a (((p' (true = true)).a (f' (i' 3 = i' 3))).a ((f' (Wk (b' true) j')).a (((p' (true = true)).a (f' (z' r.n = z' r.n))).a (((p' (true = true)).a (f' (z' r.n = z' r.n))).a ((f' (Wk (b' (decide (r.n < Int.ofNat 0))) g')).a (((p' (true = true)).a (f' (z' r.n = z' r.n))).a ((f' (Wk (b' (decide (r.n > Int.ofNat 1))) g')).a (((p' (true = true)).a (f' (i' 3 = i' 3))).a ((f' (Wk (b' false) g')).a (((p' (true = true)).a (f' (i' 3 = i' 3))).a ((f' (Wk (b' false) g')).a (((p' (true = true)).a (f' (i' 3 = i' 3))).a ((f' (Wk (b' true) j')).a (((p' (true = true)).a (f' (s' r.t = s' r.t))).a (((p' (Few r.t.size)).a (f' (VW [s' r.t] [s' r.t]))).a (((p' (true = true)).a (f' (i' 3 = i' 3))).a ((f' (Wk (b' true) j')).a ((f' (true = true)).a (((p' (true = true)).a (f' (i' 3 = i' 3))).a ((f' (Wk (b' true) j')).a ((f' (true = true)).a t')))))))))))))))))))))))))))) (VT.leaf (i' 0) [] 1101 (((p' (true = true)).a (f' (i' 3 = i' 3))).a ((f' (Wk (b' false) g')).a (((p' (true = true)).a (f' (i' 3 = i' 3))).a ((f' (Wk (b' false) g')).a (((p' (true = true)).a (f' (i' 3 = i' 3))).a ((f' (Wk (b' false) g')).a (((p' (true = true)).a (f' (i' 3 = i' 3))).a ((f' (Wk (b' true) j')).a (((p' (true = true)).a (f' (z' r.n = z' r.n))).a (((p' (true = true)).a (f' (z' r.n = z' r.n))).a ((f' (Wk (b' (decide (r.n < Int.ofNat 0))) g')).a (((p' (true = true)).a (f' (z' r.n = z' r.n))).a ((f' (Wk (b' (decide (r.n > Int.ofNat 1))) g')).a (((p' (true = true)).a (f' (i' 3 = i' 3))).a ((f' (Wk (b' false) g')).a (((p' (true = true)).a (f' (i' 3 = i' 3))).a ((f' (Wk (b' false) g')).a (((p' (true = true)).a (f' (i' 3 = i' 3))).a ((f' (Wk (b' true) j')).a (((p' (true = true)).a (f' (s' r.t = s' r.t))).a (((p' (Few r.t.size)).a (f' (VW [s' r.t] [s' r.t]))).a (((p' (true = true)).a (f' (i' 3 = i' 3))).a ((f' (Wk (b' true) j')).a ((f' (true = true)).a (((p' (true = true)).a (f' (i' 3 = i' 3))).a ((f' (Wk (b' true) j')).a ((f' (true = true)).a (((p' (true = true)).a (f' (i' 3 = i' 3))).a ((f' (Wk (b' false) g')).a ((p' ((fWg,10,A2' fWg 10,lWgE p (kR 3 r) dep).snd.snd.fst = (fWg,10,A2' fWg 10,lWgE p (kR 3 r) dep).snd.snd.fst)).a ((Cnd.p p).a ((p' (VW [AV.agg [i' 3,z' r.n,s' r.t,AV.v (Value.slice r.la r.ll r.lc),AV.v (Value.slice r.na r.nl r.nc)],i' dep,AV.ptr 1100 0,u',i' 0,i' 0,u',u',AV.ptr 1100 0,i' 3,g',g',AV.ptr 1100 0,i' 3,g',g',AV.ptr 1100 0,i' 3,g',g',u',u',g',AV.ptr 1100 0,i' 3,j',j',AV.ptr 1100 1,z' r.n,b' (r.n != Int.ofNat 0),b' (r.n != Int.ofNat 0),g',AV.ptr 1100 1,z' r.n,g',g',g',AV.ptr 1100 1,z' r.n,g',g',g',AV.ptr 1100 0,i' 3,g',g',u',u',u',g',g',g',AV.ptr 1100 0,i' 3,g',g',u',u',u',g',g',AV.ptr 1100 0,i' 3,j',j',AV.ptr 1100 2,s' r.t,b' (EF' r.t),AV.v (Value.bool !EF' r.t),AV.v (Value.bool !EF' r.t),g',AV.ptr 1100 0,i' 3,j',j',AV.ptr 1100 3,AV.v (Value.slice r.la r.ll r.lc),z' ↑r.ll,b' (decide (↑r.ll > Int.ofNat 0)),b' (decide (↑r.ll > Int.ofNat 0)),b' (decide (↑r.ll > Int.ofNat 0)),g',AV.ptr 1100 0,i' 3,j',j',AV.ptr 1100 4,AV.v (Value.slice r.na r.nl r.nc),z' ↑r.nl,b' (decide (↑r.nl > Int.ofNat 0)),b' (decide (↑r.nl > Int.ofNat 0)),b' (decide (↑r.nl > Int.ofNat 0)),g',AV.ptr 1100 0,i' 3,g',g',u',u',u',u',u',u',u',g',g',u',u',u',u',u',u',u',u',u',u',u',u',u',u',u',u',u',u',u',u',u',u',u',u',u',u',u',u',u',u',u',u',u',u',u',u',u',u',u'] (a'::i' dep::AV.ptr 1100 0::a'::a'::i' 0::ra16 (ra16 (ra16 (ra16 (ra16 (ra16 (ra16 (ra16 (ra8 (a'::a'::a'::[])))))))))))).a (f' (OW (AO.cells [i' 3,z' r.n,s' r.t,AV.v (Value.slice r.la r.ll r.lc),AV.v (Value.slice r.na r.nl r.nc)] 50) (AO.cells [i' 3,z' r.n,s' r.t,AV.v (Value.slice r.la r.ll r.lc),AV.v (Value.slice r.na r.nl r.nc)] 50))))))))))))))))))))))))))))))))))))))) := by kernel_rfl
theorem a4' (W : World) (p : Prop) (r : Rj) (dep : Nat) (F : HP) : wRun [(fWn, cWn)] (hK 4 false false) [(fWg, 10, A2' fWg 10, lWgE p (kR 4 r) dep)] W fWg [aggJ (kR 4 r), iv (Int.ofNat dep)] [] [] F = VT.ite (r.n != Int.ofNat 0) (VT.leaf (i' 32) [] 1101 (((p' (true = true)).a (f' (i' 4 = i' 4))).a ((f' (Wk (b' false) g')).a (((p' (true = true)).a (f' (i' 4 = i' 4))).a ((f' (Wk (b' false) g')).a (((p' (true = true)).a (f' (i' 4 = i' 4))).a ((f' (Wk (b' false) g')).a (((p' (true = true)).a (f' (i' 4 = i' 4))).a ((f' (Wk (b' true) j')).a (((p' (true = true)).a (f' (z' r.n = z' r.n))).a t')))))))))) (VT.ite (decide (↑r.ll > Int.ofNat 0)) (VT.leaf (i' 32) [] 1101 (((p' (true = true)).a (f' (i' 4 = i' 4))).a ((f' (Wk (b' false) g')).a (((p' (true = true)).a (f' (i' 4 = i' 4))).a ((f' (Wk (b' false) g')).a (((p' (true = true)).a (f' (i' 4 = i' 4))).a ((f' (Wk (b' false) g')).a (((p' (true = true)).a (f' (i' 4 = i' 4))).a ((f' (Wk (b' true) j')).a (((p' (true = true)).a (f' (z' r.n = z' r.n))).a (((p' (true = true)).a (f' (z' r.n = z' r.n))).a ((f' (Wk (b' (decide (r.n < Int.ofNat 0))) g')).a (((p' (true = true)).a (f' (z' r.n = z' r.n))).a ((f' (Wk (b' (decide (r.n > Int.ofNat 1))) g')).a (((p' (true = true)).a (f' (i' 4 = i' 4))).a ((f' (Wk (b' false) g')).a (((p' (true = true)).a (f' (i' 4 = i' 4))).a ((f' (Wk (b' false) g')).a (((p' (true = true)).a (f' (i' 4 = i' 4))).a ((f' (Wk (b' false) g')).a (((p' (true = true)).a (f' (i' 4 = i' 4))).a ((f' (Wk (b' true) j')).a ((f' (true = true)).a t'))))))))))))))))))))))) (VT.ite (decide (↑r.nl > Int.ofNat 0)) (VT.leaf (i' 32) [] 1101 (((p' (true = true)).a (f' (i' 4 = i' 4))).a ((f' (Wk (b' false) g')).a (((p' (true = true)).a (f' (i' 4 = i' 4))).a ((f' (Wk (b' false) g')).a (((p' (true = true)).a (f' (i' 4 = i' 4))).a ((f' (Wk (b' false) g')).a (((p' (true = true)).a (f' (i' 4 = i' 4))).a ((f' (Wk (b' true) j')).a (((p' (true = true)).a (f' (z' r.n = z' r.n))).a (((p' (true = true)).a (f' (z' r.n = z' r.n))).a ((f' (Wk (b' (decide (r.n < Int.ofNat 0))) g')).a (((p' (true = true)).a (f' (z' r.n = z' r.n))).a ((f' (Wk (b' (decide (r.n > Int.ofNat 1))) g')).a (((p' (true = true)).a (f' (i' 4 = i' 4))).a ((f' (Wk (b' false) g')).a (((p' (true = true)).a (f' (i' 4 = i' 4))).a ((f' (Wk (b' false) g')).a (((p' (true = true)).a (f' (i' 4 = i' 4))).a ((f' (Wk (b' false) g')).a (((p' (true = true)).a (f' (i' 4 = i' 4))).a ((f' (Wk (b' true) j')).a ((f' (true = true)).a (((p' (true = true)).a (f' (i' 4 = i' 4))).a ((f' (Wk (b' true) j')).a ((f' (true = true)).a t')))))))))))))))))))))))))) (VT.leaf (i' 0) [] 1101 (((p' (true = true)).a (f' (i' 4 = i' 4))).a ((f' (Wk (b' false) g')).a (((p' (true = true)).a (f' (i' 4 = i' 4))).a ((f' (Wk (b' false) g')).a (((p' (true = true)).a (f' (i' 4 = i' 4))).a ((f' (Wk (b' false) g')).a (((p' (true = true)).a (f' (i' 4 = i' 4))).a ((f' (Wk (b' true) j')).a (((p' (true = true)).a (f' (z' r.n = z' r.n))).a (((p' (true = true)).a (f' (z' r.n = z' r.n))).a ((f' (Wk (b' (decide (r.n < Int.ofNat 0))) g')).a (((p' (true = true)).a (f' (z' r.n = z' r.n))).a ((f' (Wk (b' (decide (r.n > Int.ofNat 1))) g')).a (((p' (true = true)).a (f' (i' 4 = i' 4))).a ((f' (Wk (b' false) g')).a (((p' (true = true)).a (f' (i' 4 = i' 4))).a ((f' (Wk (b' false) g')).a (((p' (true = true)).a (f' (i' 4 = i' 4))).a ((f' (Wk (b' false) g')).a (((p' (true = true)).a (f' (i' 4 = i' 4))).a ((f' (Wk (b' true) j')).a ((f' (true = true)).a (((p' (true = true)).a (f' (i' 4 = i' 4))).a ((f' (Wk (b' true) j')).a ((f' (true = true)).a (((p' (true = true)).a (f' (i' 4 = i' 4))).a ((f' (Wk (b' false) g')).a ((p' ((fWg,10,A2' fWg 10,lWgE p (kR 4 r) dep).snd.snd.fst = (fWg,10,A2' fWg 10,lWgE p (kR 4 r) dep).snd.snd.fst)).a ((Cnd.p p).a ((p' (VW [AV.agg [i' 4,z' r.n,s' r.t,AV.v (Value.slice r.la r.ll r.lc),AV.v (Value.slice r.na r.nl r.nc)],i' dep,AV.ptr 1100 0,u',i' 0,i' 0,u',u',AV.ptr 1100 0,i' 4,g',g',AV.ptr 1100 0,i' 4,g',g',AV.ptr 1100 0,i' 4,g',g',u',u',g',AV.ptr 1100 0,i' 4,j',j',AV.ptr 1100 1,z' r.n,b' (r.n != Int.ofNat 0),b' (r.n != Int.ofNat 0),g',AV.ptr 1100 1,z' r.n,g',g',g',AV.ptr 1100 1,z' r.n,g',g',g',AV.ptr 1100 0,i' 4,g',g',u',u',u',g',g',g',AV.ptr 1100 0,i' 4,g',g',u',u',u',g',g',AV.ptr 1100 0,i' 4,g',g',u',u',u',u',g',g',AV.ptr 1100 0,i' 4,j',j',AV.ptr 1100 3,AV.v (Value.slice r.la r.ll r.lc),z' ↑r.ll,b' (decide (↑r.ll > Int.ofNat 0)),b' (decide (↑r.ll > Int.ofNat 0)),b' (decide (↑r.ll > Int.ofNat 0)),g',AV.ptr 1100 0,i' 4,j',j',AV.ptr 1100 4,AV.v (Value.slice r.na r.nl r.nc),z' ↑r.nl,b' (decide (↑r.nl > Int.ofNat 0)),b' (decide (↑r.nl > Int.ofNat 0)),b' (decide (↑r.nl > Int.ofNat 0)),g',AV.ptr 1100 0,i' 4,g',g',u',u',u',u',u',u',u',g',g',u',u',u',u',u',u',u',u',u',u',u',u',u',u',u',u',u',u',u',u',u',u',u',u',u',u',u',u',u',u',u',u',u',u',u',u',u',u',u'] (a'::i' dep::AV.ptr 1100 0::a'::a'::i' 0::ra16 (ra16 (ra16 (ra16 (ra16 (ra16 (ra16 (ra16 (ra8 (a'::a'::a'::[])))))))))))).a (f' (OW (AO.cells [i' 4,z' r.n,s' r.t,AV.v (Value.slice r.la r.ll r.lc),AV.v (Value.slice r.na r.nl r.nc)] 50) (AO.cells [i' 4,z' r.n,s' r.t,AV.v (Value.slice r.la r.ll r.lc),AV.v (Value.slice r.na r.nl r.nc)] 50)))))))))))))))))))))))))))))))))))) := by kernel_rfl
theorem WF' (W : World) (p : Prop) (r : Rj) (dep : Nat) (F : HP) : wRun [(fWn, cWn)] (hK 5 false false) [(fWg, 10, A2' fWg 10, lWgE p (kR 5 r) dep)] W fWg [aggJ (kR 5 r), iv (Int.ofNat dep)] [] [] F = VT.ite (decide (Int.ofNat dep > Int.ofNat 16)) (VT.leaf (i' 8) [] 1101 (((p' (true = true)).a (f' (i' 5 = i' 5))).a ((f' (Wk (b' false) g')).a (((p' (true = true)).a (f' (i' 5 = i' 5))).a ((f' (Wk (b' false) g')).a (((p' (true = true)).a (f' (i' 5 = i' 5))).a ((f' (Wk (b' true) j')).a t'))))))) (VT.ite (r.n != Int.ofNat 0) (VT.leaf (i' 32) [] 1101 (((p' (true = true)).a (f' (i' 5 = i' 5))).a ((f' (Wk (b' false) g')).a (((p' (true = true)).a (f' (i' 5 = i' 5))).a ((f' (Wk (b' false) g')).a (((p' (true = true)).a (f' (i' 5 = i' 5))).a ((f' (Wk (b' true) j')).a (((p' (true = true)).a (f' (i' 5 = i' 5))).a ((f' (Wk (b' true) j')).a (((p' (true = true)).a (f' (z' r.n = z' r.n))).a t')))))))))) (VT.ite (!r.t.toList == []) (VT.leaf (i' 32) [] 1101 (((p' (true = true)).a (f' (i' 5 = i' 5))).a ((f' (Wk (b' false) g')).a (((p' (true = true)).a (f' (i' 5 = i' 5))).a ((f' (Wk (b' false) g')).a (((p' (true = true)).a (f' (i' 5 = i' 5))).a ((f' (Wk (b' true) j')).a (((p' (true = true)).a (f' (i' 5 = i' 5))).a ((f' (Wk (b' true) j')).a (((p' (true = true)).a (f' (z' r.n = z' r.n))).a (((p' (true = true)).a (f' (z' r.n = z' r.n))).a ((f' (Wk (b' (decide (r.n < Int.ofNat 0))) g')).a (((p' (true = true)).a (f' (z' r.n = z' r.n))).a ((f' (Wk (b' (decide (r.n > Int.ofNat 1))) g')).a (((p' (true = true)).a (f' (i' 5 = i' 5))).a ((f' (Wk (b' false) g')).a (((p' (true = true)).a (f' (i' 5 = i' 5))).a ((f' (Wk (b' true) j')).a (((p' (true = true)).a (f' (s' r.t = s' r.t))).a t'))))))))))))))))))) (VT.ite (decide (↑r.nl > Int.ofNat 0)) (VT.leaf (i' 32) [] 1101 (((p' (true = true)).a (f' (i' 5 = i' 5))).a ((f' (Wk (b' false) g')).a (((p' (true = true)).a (f' (i' 5 = i' 5))).a ((f' (Wk (b' false) g')).a (((p' (true = true)).a (f' (i' 5 = i' 5))).a ((f' (Wk (b' true) j')).a (((p' (true = true)).a (f' (i' 5 = i' 5))).a ((f' (Wk (b' true) j')).a (((p' (true = true)).a (f' (z' r.n = z' r.n))).a (((p' (true = true)).a (f' (z' r.n = z' r.n))).a ((f' (Wk (b' (decide (r.n < Int.ofNat 0))) g')).a (((p' (true = true)).a (f' (z' r.n = z' r.n))).a ((f' (Wk (b' (decide (r.n > Int.ofNat 1))) g')).a (((p' (true = true)).a (f' (i' 5 = i' 5))).a ((f' (Wk (b' false) g')).a (((p' (true = true)).a (f' (i' 5 = i' 5))).a ((f' (Wk (b' true) j')).a (((p' (true = true)).a (f' (s' r.t = s' r.t))).a (((p' (true = true)).a (f' (i' 5 = i' 5))).a ((f' (Wk (b' false) g')).a (((p' (true = true)).a (f' (i' 5 = i' 5))).a ((f' (Wk (b' false) g')).a (((p' (true = true)).a (f' (i' 5 = i' 5))).a ((f' (Wk (b' true) j')).a ((f' (true = true)).a t')))))))))))))))))))))))))) (VT.leaf (i' 0) [] 1101 (((p' (true = true)).a (f' (i' 5 = i' 5))).a ((f' (Wk (b' false) g')).a (((p' (true = true)).a (f' (i' 5 = i' 5))).a ((f' (Wk (b' false) g')).a (((p' (true = true)).a (f' (i' 5 = i' 5))).a ((f' (Wk (b' true) j')).a (((p' (true = true)).a (f' (i' 5 = i' 5))).a ((f' (Wk (b' true) j')).a (((p' (true = true)).a (f' (z' r.n = z' r.n))).a (((p' (true = true)).a (f' (z' r.n = z' r.n))).a ((f' (Wk (b' (decide (r.n < Int.ofNat 0))) g')).a (((p' (true = true)).a (f' (z' r.n = z' r.n))).a ((f' (Wk (b' (decide (r.n > Int.ofNat 1))) g')).a (((p' (true = true)).a (f' (i' 5 = i' 5))).a ((f' (Wk (b' false) g')).a (((p' (true = true)).a (f' (i' 5 = i' 5))).a ((f' (Wk (b' true) j')).a (((p' (true = true)).a (f' (s' r.t = s' r.t))).a (((p' (true = true)).a (f' (i' 5 = i' 5))).a ((f' (Wk (b' false) g')).a (((p' (true = true)).a (f' (i' 5 = i' 5))).a ((f' (Wk (b' false) g')).a (((p' (true = true)).a (f' (i' 5 = i' 5))).a ((f' (Wk (b' true) j')).a ((f' (true = true)).a (((p' (true = true)).a (f' (i' 5 = i' 5))).a ((f' (Wk (b' false) g')).a ((p' ((fWg,10,A2' fWg 10,lWgE p (kR 5 r) dep).snd.snd.fst = (fWg,10,A2' fWg 10,lWgE p (kR 5 r) dep).snd.snd.fst)).a ((Cnd.p p).a ((p' (VW (AV.agg [i' 5,z' r.n,s' r.t,AV.v (Value.slice r.la r.ll r.lc),AV.v (Value.slice r.na r.nl r.nc)]::i' dep::AV.ptr 1100 0::u'::i' 0::i' 0::u'::u'::AV.ptr 1100 0::i' 5::g'::g'::AV.ptr 1100 0::i' 5::g'::g'::AV.ptr 1100 0::i' 5::j'::j'::i' dep::b' (decide (Int.ofNat dep > Int.ofNat 16))::g'::AV.ptr 1100 0::i' 5::j'::j'::AV.ptr 1100 1::z' r.n::b' (r.n != Int.ofNat 0)::b' (r.n != Int.ofNat 0)::g'::AV.ptr 1100 1::z' r.n::g'::g'::g'::AV.ptr 1100 1::z' r.n::g'::g'::g'::AV.ptr 1100 0::i' 5::g'::g'::u'::u'::u'::g'::g'::g'::AV.ptr 1100 0::i' 5::j'::j'::AV.ptr 1100 2::s' r.t::AV.v (Value.bool !r.t.toList == [])::AV.v (Value.bool !r.t.toList == [])::g'::AV.ptr 1100 0::i' 5::g'::g'::ru4 (g'::g'::AV.ptr 1100 0::i' 5::g'::g'::ru4 (g'::g'::g'::AV.ptr 1100 0::i' 5::j'::j'::AV.ptr 1100 4::AV.v (Value.slice r.na r.nl r.nc)::z' ↑r.nl::b' (decide (↑r.nl > Int.ofNat 0))::b' (decide (↑r.nl > Int.ofNat 0))::b' (decide (↑r.nl > Int.ofNat 0))::g'::AV.ptr 1100 0::i' 5::g'::g'::ru4 (u'::u'::u'::g'::g'::ru16 (ru16 (ru4 (u'::u'::u'::[]))))))) (a'::i' dep::AV.ptr 1100 0::a'::a'::i' 0::ra16 (ra16 (ra16 (ra16 (ra16 (ra16 (ra16 (ra16 (ra8 (a'::a'::a'::[])))))))))))).a (f' (OW (AO.cells [i' 5,z' r.n,s' r.t,AV.v (Value.slice r.la r.ll r.lc),AV.v (Value.slice r.na r.nl r.nc)] 50) (AO.cells [i' 5,z' r.n,s' r.t,AV.v (Value.slice r.la r.ll r.lc),AV.v (Value.slice r.na r.nl r.nc)] 50))))))))))))))))))))))))))))))))))))) := by kernel_rfl
theorem WG' (W : World) (p : Prop) (r : Rj) (dep : Nat) (e : Int) (F : HP) : wRun [(fWn, cWn)] (hK 5 false false) [(fWg, 10, A2' fWg 10, lWgR p (kR 5 r) dep e)] W fWg [aggJ (kR 5 r), iv (Int.ofNat dep)] [] [] F = VT.ite (decide (Int.ofNat dep > Int.ofNat 16)) (VT.leaf (i' 8) [] 1101 (((p' (true = true)).a (f' (i' 5 = i' 5))).a ((f' (Wk (b' false) g')).a (((p' (true = true)).a (f' (i' 5 = i' 5))).a ((f' (Wk (b' false) g')).a (((p' (true = true)).a (f' (i' 5 = i' 5))).a ((f' (Wk (b' true) j')).a t'))))))) (VT.ite (r.n != Int.ofNat 0) (VT.leaf (i' 32) [] 1101 (((p' (true = true)).a (f' (i' 5 = i' 5))).a ((f' (Wk (b' false) g')).a (((p' (true = true)).a (f' (i' 5 = i' 5))).a ((f' (Wk (b' false) g')).a (((p' (true = true)).a (f' (i' 5 = i' 5))).a ((f' (Wk (b' true) j')).a (((p' (true = true)).a (f' (i' 5 = i' 5))).a ((f' (Wk (b' true) j')).a (((p' (true = true)).a (f' (z' r.n = z' r.n))).a t')))))))))) (VT.ite (!r.t.toList == []) (VT.leaf (i' 32) [] 1101 (((p' (true = true)).a (f' (i' 5 = i' 5))).a ((f' (Wk (b' false) g')).a (((p' (true = true)).a (f' (i' 5 = i' 5))).a ((f' (Wk (b' false) g')).a (((p' (true = true)).a (f' (i' 5 = i' 5))).a ((f' (Wk (b' true) j')).a (((p' (true = true)).a (f' (i' 5 = i' 5))).a ((f' (Wk (b' true) j')).a (((p' (true = true)).a (f' (z' r.n = z' r.n))).a (((p' (true = true)).a (f' (z' r.n = z' r.n))).a ((f' (Wk (b' (decide (r.n < Int.ofNat 0))) g')).a (((p' (true = true)).a (f' (z' r.n = z' r.n))).a ((f' (Wk (b' (decide (r.n > Int.ofNat 1))) g')).a (((p' (true = true)).a (f' (i' 5 = i' 5))).a ((f' (Wk (b' false) g')).a (((p' (true = true)).a (f' (i' 5 = i' 5))).a ((f' (Wk (b' true) j')).a (((p' (true = true)).a (f' (s' r.t = s' r.t))).a t'))))))))))))))))))) (VT.ite (decide (↑r.nl > Int.ofNat 0)) (VT.leaf (i' 32) [] 1101 (((p' (true = true)).a (f' (i' 5 = i' 5))).a ((f' (Wk (b' false) g')).a (((p' (true = true)).a (f' (i' 5 = i' 5))).a ((f' (Wk (b' false) g')).a (((p' (true = true)).a (f' (i' 5 = i' 5))).a ((f' (Wk (b' true) j')).a (((p' (true = true)).a (f' (i' 5 = i' 5))).a ((f' (Wk (b' true) j')).a (((p' (true = true)).a (f' (z' r.n = z' r.n))).a (((p' (true = true)).a (f' (z' r.n = z' r.n))).a ((f' (Wk (b' (decide (r.n < Int.ofNat 0))) g')).a (((p' (true = true)).a (f' (z' r.n = z' r.n))).a ((f' (Wk (b' (decide (r.n > Int.ofNat 1))) g')).a (((p' (true = true)).a (f' (i' 5 = i' 5))).a ((f' (Wk (b' false) g')).a (((p' (true = true)).a (f' (i' 5 = i' 5))).a ((f' (Wk (b' true) j')).a (((p' (true = true)).a (f' (s' r.t = s' r.t))).a (((p' (true = true)).a (f' (i' 5 = i' 5))).a ((f' (Wk (b' false) g')).a (((p' (true = true)).a (f' (i' 5 = i' 5))).a ((f' (Wk (b' false) g')).a (((p' (true = true)).a (f' (i' 5 = i' 5))).a ((f' (Wk (b' true) j')).a ((f' (true = true)).a t')))))))))))))))))))))))))) (VT.leaf (z' e) [] 1101 (((p' (true = true)).a (f' (i' 5 = i' 5))).a ((f' (Wk (b' false) g')).a (((p' (true = true)).a (f' (i' 5 = i' 5))).a ((f' (Wk (b' false) g')).a (((p' (true = true)).a (f' (i' 5 = i' 5))).a ((f' (Wk (b' true) j')).a (((p' (true = true)).a (f' (i' 5 = i' 5))).a ((f' (Wk (b' true) j')).a (((p' (true = true)).a (f' (z' r.n = z' r.n))).a (((p' (true = true)).a (f' (z' r.n = z' r.n))).a ((f' (Wk (b' (decide (r.n < Int.ofNat 0))) g')).a (((p' (true = true)).a (f' (z' r.n = z' r.n))).a ((f' (Wk (b' (decide (r.n > Int.ofNat 1))) g')).a (((p' (true = true)).a (f' (i' 5 = i' 5))).a ((f' (Wk (b' false) g')).a (((p' (true = true)).a (f' (i' 5 = i' 5))).a ((f' (Wk (b' true) j')).a (((p' (true = true)).a (f' (s' r.t = s' r.t))).a (((p' (true = true)).a (f' (i' 5 = i' 5))).a ((f' (Wk (b' false) g')).a (((p' (true = true)).a (f' (i' 5 = i' 5))).a ((f' (Wk (b' false) g')).a (((p' (true = true)).a (f' (i' 5 = i' 5))).a ((f' (Wk (b' true) j')).a ((f' (true = true)).a (((p' (true = true)).a (f' (i' 5 = i' 5))).a ((f' (Wk (b' false) g')).a ((p' ((fWg,10,A2' fWg 10,lWgR p (kR 5 r) dep e).snd.snd.fst = (fWg,10,A2' fWg 10,lWgR p (kR 5 r) dep e).snd.snd.fst)).a ((Cnd.p p).a ((p' (VW (AV.agg [i' 5,z' r.n,s' r.t,AV.v (Value.slice r.la r.ll r.lc),AV.v (Value.slice r.na r.nl r.nc)]::i' dep::AV.ptr 1100 0::u'::i' 0::i' 0::u'::u'::AV.ptr 1100 0::i' 5::g'::g'::AV.ptr 1100 0::i' 5::g'::g'::AV.ptr 1100 0::i' 5::j'::j'::i' dep::b' (decide (Int.ofNat dep > Int.ofNat 16))::g'::AV.ptr 1100 0::i' 5::j'::j'::AV.ptr 1100 1::z' r.n::b' (r.n != Int.ofNat 0)::b' (r.n != Int.ofNat 0)::g'::AV.ptr 1100 1::z' r.n::g'::g'::g'::AV.ptr 1100 1::z' r.n::g'::g'::g'::AV.ptr 1100 0::i' 5::g'::g'::u'::u'::u'::g'::g'::g'::AV.ptr 1100 0::i' 5::j'::j'::AV.ptr 1100 2::s' r.t::AV.v (Value.bool !r.t.toList == [])::AV.v (Value.bool !r.t.toList == [])::g'::AV.ptr 1100 0::i' 5::g'::g'::ru4 (g'::g'::AV.ptr 1100 0::i' 5::g'::g'::ru4 (g'::g'::g'::AV.ptr 1100 0::i' 5::j'::j'::AV.ptr 1100 4::AV.v (Value.slice r.na r.nl r.nc)::z' ↑r.nl::b' (decide (↑r.nl > Int.ofNat 0))::b' (decide (↑r.nl > Int.ofNat 0))::b' (decide (↑r.nl > Int.ofNat 0))::g'::AV.ptr 1100 0::i' 5::g'::g'::ru4 (u'::u'::u'::g'::g'::ru16 (ru16 (ru4 (u'::u'::u'::[]))))))) (a'::i' dep::AV.ptr 1100 0::a'::a'::i' 0::ra16 (ra16 (ra16 (ra16 (ra16 (ra16 (ra16 (ra16 (ra8 (a'::a'::a'::[])))))))))))).a (f' (OW (AO.cells [i' 5,z' r.n,s' r.t,AV.v (Value.slice r.la r.ll r.lc),AV.v (Value.slice r.na r.nl r.nc)] 50) (AO.cells [i' 5,z' r.n,s' r.t,AV.v (Value.slice r.la r.ll r.lc),AV.v (Value.slice r.na r.nl r.nc)] 50))))))))))))))))))))))))))))))))))))) := by kernel_rfl
theorem WD' (W : World) (p : Prop) (r : Rj) (dep : Nat) (F : HP) : wRun [(fWn, cWn)] (hK 6 false false) [(fWg, 10, A2' fWg 10, lWgE p (kR 6 r) dep)] W fWg [aggJ (kR 6 r), iv (Int.ofNat dep)] [] [] F = VT.ite (decide (Int.ofNat dep > Int.ofNat 16)) (VT.leaf (i' 8) [] 1101 (((p' (true = true)).a (f' (i' 6 = i' 6))).a ((f' (Wk (b' false) g')).a (((p' (true = true)).a (f' (i' 6 = i' 6))).a ((f' (Wk (b' false) g')).a (((p' (true = true)).a (f' (i' 6 = i' 6))).a ((f' (Wk (b' true) j')).a t'))))))) (VT.ite (r.n != Int.ofNat 0) (VT.leaf (i' 32) [] 1101 (((p' (true = true)).a (f' (i' 6 = i' 6))).a ((f' (Wk (b' false) g')).a (((p' (true = true)).a (f' (i' 6 = i' 6))).a ((f' (Wk (b' false) g')).a (((p' (true = true)).a (f' (i' 6 = i' 6))).a ((f' (Wk (b' true) j')).a (((p' (true = true)).a (f' (i' 6 = i' 6))).a ((f' (Wk (b' true) j')).a (((p' (true = true)).a (f' (z' r.n = z' r.n))).a t')))))))))) (VT.ite (!r.t.toList == []) (VT.leaf (i' 32) [] 1101 (((p' (true = true)).a (f' (i' 6 = i' 6))).a ((f' (Wk (b' false) g')).a (((p' (true = true)).a (f' (i' 6 = i' 6))).a ((f' (Wk (b' false) g')).a (((p' (true = true)).a (f' (i' 6 = i' 6))).a ((f' (Wk (b' true) j')).a (((p' (true = true)).a (f' (i' 6 = i' 6))).a ((f' (Wk (b' true) j')).a (((p' (true = true)).a (f' (z' r.n = z' r.n))).a (((p' (true = true)).a (f' (z' r.n = z' r.n))).a ((f' (Wk (b' (decide (r.n < Int.ofNat 0))) g')).a (((p' (true = true)).a (f' (z' r.n = z' r.n))).a ((f' (Wk (b' (decide (r.n > Int.ofNat 1))) g')).a (((p' (true = true)).a (f' (i' 6 = i' 6))).a ((f' (Wk (b' false) g')).a (((p' (true = true)).a (f' (i' 6 = i' 6))).a ((f' (Wk (b' true) j')).a (((p' (true = true)).a (f' (s' r.t = s' r.t))).a t'))))))))))))))))))) (VT.ite ((↑r.nl : Int) != ↑r.ll) (VT.leaf (i' 32) [] 1101 (((p' (true = true)).a (f' (i' 6 = i' 6))).a ((f' (Wk (b' false) g')).a (((p' (true = true)).a (f' (i' 6 = i' 6))).a ((f' (Wk (b' false) g')).a (((p' (true = true)).a (f' (i' 6 = i' 6))).a ((f' (Wk (b' true) j')).a (((p' (true = true)).a (f' (i' 6 = i' 6))).a ((f' (Wk (b' true) j')).a (((p' (true = true)).a (f' (z' r.n = z' r.n))).a (((p' (true = true)).a (f' (z' r.n = z' r.n))).a ((f' (Wk (b' (decide (r.n < Int.ofNat 0))) g')).a (((p' (true = true)).a (f' (z' r.n = z' r.n))).a ((f' (Wk (b' (decide (r.n > Int.ofNat 1))) g')).a (((p' (true = true)).a (f' (i' 6 = i' 6))).a ((f' (Wk (b' false) g')).a (((p' (true = true)).a (f' (i' 6 = i' 6))).a ((f' (Wk (b' true) j')).a (((p' (true = true)).a (f' (s' r.t = s' r.t))).a (((p' (true = true)).a (f' (i' 6 = i' 6))).a ((f' (Wk (b' false) g')).a (((p' (true = true)).a (f' (i' 6 = i' 6))).a ((f' (Wk (b' false) g')).a (((p' (true = true)).a (f' (i' 6 = i' 6))).a ((f' (Wk (b' false) g')).a (((p' (true = true)).a (f' (i' 6 = i' 6))).a ((f' (Wk (b' true) j')).a ((f' (true = true)).a ((f' (true = true)).a t'))))))))))))))))))))))))))))) (VT.leaf (i' 0) [] 1101 (((p' (true = true)).a (f' (i' 6 = i' 6))).a ((f' (Wk (b' false) g')).a (((p' (true = true)).a (f' (i' 6 = i' 6))).a ((f' (Wk (b' false) g')).a (((p' (true = true)).a (f' (i' 6 = i' 6))).a ((f' (Wk (b' true) j')).a (((p' (true = true)).a (f' (i' 6 = i' 6))).a ((f' (Wk (b' true) j')).a (((p' (true = true)).a (f' (z' r.n = z' r.n))).a (((p' (true = true)).a (f' (z' r.n = z' r.n))).a ((f' (Wk (b' (decide (r.n < Int.ofNat 0))) g')).a (((p' (true = true)).a (f' (z' r.n = z' r.n))).a ((f' (Wk (b' (decide (r.n > Int.ofNat 1))) g')).a (((p' (true = true)).a (f' (i' 6 = i' 6))).a ((f' (Wk (b' false) g')).a (((p' (true = true)).a (f' (i' 6 = i' 6))).a ((f' (Wk (b' true) j')).a (((p' (true = true)).a (f' (s' r.t = s' r.t))).a (((p' (true = true)).a (f' (i' 6 = i' 6))).a ((f' (Wk (b' false) g')).a (((p' (true = true)).a (f' (i' 6 = i' 6))).a ((f' (Wk (b' false) g')).a (((p' (true = true)).a (f' (i' 6 = i' 6))).a ((f' (Wk (b' false) g')).a (((p' (true = true)).a (f' (i' 6 = i' 6))).a ((f' (Wk (b' true) j')).a ((f' (true = true)).a ((f' (true = true)).a ((p' ((fWg,10,A2' fWg 10,lWgE p (kR 6 r) dep).snd.snd.fst = (fWg,10,A2' fWg 10,lWgE p (kR 6 r) dep).snd.snd.fst)).a ((Cnd.p p).a ((p' (VW (AV.agg [i' 6,z' r.n,s' r.t,AV.v (Value.slice r.la r.ll r.lc),AV.v (Value.slice r.na r.nl r.nc)]::i' dep::AV.ptr 1100 0::u'::i' 0::i' 0::u'::u'::AV.ptr 1100 0::i' 6::g'::g'::AV.ptr 1100 0::i' 6::g'::g'::AV.ptr 1100 0::i' 6::j'::j'::i' dep::b' (decide (Int.ofNat dep > Int.ofNat 16))::g'::AV.ptr 1100 0::i' 6::j'::j'::AV.ptr 1100 1::z' r.n::b' (r.n != Int.ofNat 0)::b' (r.n != Int.ofNat 0)::g'::AV.ptr 1100 1::z' r.n::g'::g'::g'::AV.ptr 1100 1::z' r.n::g'::g'::g'::AV.ptr 1100 0::i' 6::g'::g'::u'::u'::u'::g'::g'::g'::AV.ptr 1100 0::i' 6::j'::j'::AV.ptr 1100 2::s' r.t::AV.v (Value.bool !r.t.toList == [])::AV.v (Value.bool !r.t.toList == [])::g'::AV.ptr 1100 0::i' 6::g'::g'::ru4 (g'::g'::AV.ptr 1100 0::i' 6::g'::g'::ru4 (g'::g'::g'::AV.ptr 1100 0::i' 6::g'::g'::ru4 (g'::g'::g'::AV.ptr 1100 0::i' 6::j'::j'::AV.ptr 1100 4::AV.v (Value.slice r.na r.nl r.nc)::z' ↑r.nl::AV.ptr 1100 3::AV.v (Value.slice r.la r.ll r.lc)::z' ↑r.ll::b' ((↑r.nl : Int) != ↑r.ll)::b' ((↑r.nl : Int) != ↑r.ll)::g'::ru16 (ru16 (ru4 (u'::u'::u'::[]))))))) (a'::i' dep::AV.ptr 1100 0::a'::a'::i' 0::ra16 (ra16 (ra16 (ra16 (ra16 (ra16 (ra16 (ra16 (ra8 (a'::a'::a'::[])))))))))))).a (f' (OW (AO.cells [i' 6,z' r.n,s' r.t,AV.v (Value.slice r.la r.ll r.lc),AV.v (Value.slice r.na r.nl r.nc)] 50) (AO.cells [i' 6,z' r.n,s' r.t,AV.v (Value.slice r.la r.ll r.lc),AV.v (Value.slice r.na r.nl r.nc)] 50)))))))))))))))))))))))))))))))))))))) := by kernel_rfl
theorem WE' (W : World) (p : Prop) (r : Rj) (dep : Nat) (e : Int) (F : HP) : wRun [(fWn, cWn)] (hK 6 false false) [(fWg, 10, A2' fWg 10, lWgR p (kR 6 r) dep e)] W fWg [aggJ (kR 6 r), iv (Int.ofNat dep)] [] [] F = VT.ite (decide (Int.ofNat dep > Int.ofNat 16)) (VT.leaf (i' 8) [] 1101 (((p' (true = true)).a (f' (i' 6 = i' 6))).a ((f' (Wk (b' false) g')).a (((p' (true = true)).a (f' (i' 6 = i' 6))).a ((f' (Wk (b' false) g')).a (((p' (true = true)).a (f' (i' 6 = i' 6))).a ((f' (Wk (b' true) j')).a t'))))))) (VT.ite (r.n != Int.ofNat 0) (VT.leaf (i' 32) [] 1101 (((p' (true = true)).a (f' (i' 6 = i' 6))).a ((f' (Wk (b' false) g')).a (((p' (true = true)).a (f' (i' 6 = i' 6))).a ((f' (Wk (b' false) g')).a (((p' (true = true)).a (f' (i' 6 = i' 6))).a ((f' (Wk (b' true) j')).a (((p' (true = true)).a (f' (i' 6 = i' 6))).a ((f' (Wk (b' true) j')).a (((p' (true = true)).a (f' (z' r.n = z' r.n))).a t')))))))))) (VT.ite (!r.t.toList == []) (VT.leaf (i' 32) [] 1101 (((p' (true = true)).a (f' (i' 6 = i' 6))).a ((f' (Wk (b' false) g')).a (((p' (true = true)).a (f' (i' 6 = i' 6))).a ((f' (Wk (b' false) g')).a (((p' (true = true)).a (f' (i' 6 = i' 6))).a ((f' (Wk (b' true) j')).a (((p' (true = true)).a (f' (i' 6 = i' 6))).a ((f' (Wk (b' true) j')).a (((p' (true = true)).a (f' (z' r.n = z' r.n))).a (((p' (true = true)).a (f' (z' r.n = z' r.n))).a ((f' (Wk (b' (decide (r.n < Int.ofNat 0))) g')).a (((p' (true = true)).a (f' (z' r.n = z' r.n))).a ((f' (Wk (b' (decide (r.n > Int.ofNat 1))) g')).a (((p' (true = true)).a (f' (i' 6 = i' 6))).a ((f' (Wk (b' false) g')).a (((p' (true = true)).a (f' (i' 6 = i' 6))).a ((f' (Wk (b' true) j')).a (((p' (true = true)).a (f' (s' r.t = s' r.t))).a t'))))))))))))))))))) (VT.ite ((↑r.nl : Int) != ↑r.ll) (VT.leaf (i' 32) [] 1101 (((p' (true = true)).a (f' (i' 6 = i' 6))).a ((f' (Wk (b' false) g')).a (((p' (true = true)).a (f' (i' 6 = i' 6))).a ((f' (Wk (b' false) g')).a (((p' (true = true)).a (f' (i' 6 = i' 6))).a ((f' (Wk (b' true) j')).a (((p' (true = true)).a (f' (i' 6 = i' 6))).a ((f' (Wk (b' true) j')).a (((p' (true = true)).a (f' (z' r.n = z' r.n))).a (((p' (true = true)).a (f' (z' r.n = z' r.n))).a ((f' (Wk (b' (decide (r.n < Int.ofNat 0))) g')).a (((p' (true = true)).a (f' (z' r.n = z' r.n))).a ((f' (Wk (b' (decide (r.n > Int.ofNat 1))) g')).a (((p' (true = true)).a (f' (i' 6 = i' 6))).a ((f' (Wk (b' false) g')).a (((p' (true = true)).a (f' (i' 6 = i' 6))).a ((f' (Wk (b' true) j')).a (((p' (true = true)).a (f' (s' r.t = s' r.t))).a (((p' (true = true)).a (f' (i' 6 = i' 6))).a ((f' (Wk (b' false) g')).a (((p' (true = true)).a (f' (i' 6 = i' 6))).a ((f' (Wk (b' false) g')).a (((p' (true = true)).a (f' (i' 6 = i' 6))).a ((f' (Wk (b' false) g')).a (((p' (true = true)).a (f' (i' 6 = i' 6))).a ((f' (Wk (b' true) j')).a ((f' (true = true)).a ((f' (true = true)).a t'))))))))))))))))))))))))))))) (VT.leaf (z' e) [] 1101 (((p' (true = true)).a (f' (i' 6 = i' 6))).a ((f' (Wk (b' false) g')).a (((p' (true = true)).a (f' (i' 6 = i' 6))).a ((f' (Wk (b' false) g')).a (((p' (true = true)).a (f' (i' 6 = i' 6))).a ((f' (Wk (b' true) j')).a (((p' (true = true)).a (f' (i' 6 = i' 6))).a ((f' (Wk (b' true) j')).a (((p' (true = true)).a (f' (z' r.n = z' r.n))).a (((p' (true = true)).a (f' (z' r.n = z' r.n))).a ((f' (Wk (b' (decide (r.n < Int.ofNat 0))) g')).a (((p' (true = true)).a (f' (z' r.n = z' r.n))).a ((f' (Wk (b' (decide (r.n > Int.ofNat 1))) g')).a (((p' (true = true)).a (f' (i' 6 = i' 6))).a ((f' (Wk (b' false) g')).a (((p' (true = true)).a (f' (i' 6 = i' 6))).a ((f' (Wk (b' true) j')).a (((p' (true = true)).a (f' (s' r.t = s' r.t))).a (((p' (true = true)).a (f' (i' 6 = i' 6))).a ((f' (Wk (b' false) g')).a (((p' (true = true)).a (f' (i' 6 = i' 6))).a ((f' (Wk (b' false) g')).a (((p' (true = true)).a (f' (i' 6 = i' 6))).a ((f' (Wk (b' false) g')).a (((p' (true = true)).a (f' (i' 6 = i' 6))).a ((f' (Wk (b' true) j')).a ((f' (true = true)).a ((f' (true = true)).a ((p' ((fWg,10,A2' fWg 10,lWgR p (kR 6 r) dep e).snd.snd.fst = (fWg,10,A2' fWg 10,lWgR p (kR 6 r) dep e).snd.snd.fst)).a ((Cnd.p p).a ((p' (VW (AV.agg [i' 6,z' r.n,s' r.t,AV.v (Value.slice r.la r.ll r.lc),AV.v (Value.slice r.na r.nl r.nc)]::i' dep::AV.ptr 1100 0::u'::i' 0::i' 0::u'::u'::AV.ptr 1100 0::i' 6::g'::g'::AV.ptr 1100 0::i' 6::g'::g'::AV.ptr 1100 0::i' 6::j'::j'::i' dep::b' (decide (Int.ofNat dep > Int.ofNat 16))::g'::AV.ptr 1100 0::i' 6::j'::j'::AV.ptr 1100 1::z' r.n::b' (r.n != Int.ofNat 0)::b' (r.n != Int.ofNat 0)::g'::AV.ptr 1100 1::z' r.n::g'::g'::g'::AV.ptr 1100 1::z' r.n::g'::g'::g'::AV.ptr 1100 0::i' 6::g'::g'::u'::u'::u'::g'::g'::g'::AV.ptr 1100 0::i' 6::j'::j'::AV.ptr 1100 2::s' r.t::AV.v (Value.bool !r.t.toList == [])::AV.v (Value.bool !r.t.toList == [])::g'::AV.ptr 1100 0::i' 6::g'::g'::ru4 (g'::g'::AV.ptr 1100 0::i' 6::g'::g'::ru4 (g'::g'::g'::AV.ptr 1100 0::i' 6::g'::g'::ru4 (g'::g'::g'::AV.ptr 1100 0::i' 6::j'::j'::AV.ptr 1100 4::AV.v (Value.slice r.na r.nl r.nc)::z' ↑r.nl::AV.ptr 1100 3::AV.v (Value.slice r.la r.ll r.lc)::z' ↑r.ll::b' ((↑r.nl : Int) != ↑r.ll)::b' ((↑r.nl : Int) != ↑r.ll)::g'::ru16 (ru16 (ru4 (u'::u'::u'::[]))))))) (a'::i' dep::AV.ptr 1100 0::a'::a'::i' 0::ra16 (ra16 (ra16 (ra16 (ra16 (ra16 (ra16 (ra16 (ra8 (a'::a'::a'::[])))))))))))).a (f' (OW (AO.cells [i' 6,z' r.n,s' r.t,AV.v (Value.slice r.la r.ll r.lc),AV.v (Value.slice r.na r.nl r.nc)] 50) (AO.cells [i' 6,z' r.n,s' r.t,AV.v (Value.slice r.la r.ll r.lc),AV.v (Value.slice r.na r.nl r.nc)] 50)))))))))))))))))))))))))))))))))))))) := by kernel_rfl
end
theorem VV' {a b : ByteArray} (h : a.toList = b.toList) : a = b := by
 rw [Lib.toList_data, Lib.toList_data] at h
 cases a; cases b; congr 1; exact Array.ext' h
theorem txtTW {a b : ByteArray} (h : a = b) : (a.toList == b.toList) = true := by subst h; exact beq_self_eq_true _
theorem txtFW {a b : ByteArray} (h : a ≠ b) : (a.toList == b.toList) = false := beq_eq_false_iff_ne.2 fun e => h (VV' e)
theorem UY' {W : World} (F : HP) (hF : AK' W F) : C1OK Tryz.prog F fRNm cRNm :=
 BR' (AK'.nothing F) (fun p => .tuple [iv (Int.ofNat (numF (bts p.1) p.2).1), bv (numF (bts p.1) p.2).2]) QQ' (fun _ => rfl) (fun p hp => Y6' p.1 p.2 hp.2 hp.1) fun p => ⟨rfl, rfl, ⟨Ye, Ye, Ye⟩, A7', ⟨⟨Ye, Ye, Ye⟩, Ye⟩, A7'⟩
theorem VH' (s : ByteArray) (hs : Few s.size) : Tri Tryz.prog default fWn [sv s] [] (bv (EF' s)) [] := by
 have h0 : 0 ≤ s.size ∧ Few s.size := ⟨Nat.zero_le _, hs⟩
 have hn := numF_0 (bts s)
 unfold EF'
 rw [← hn]
 cases hq : (numF (bts s) 0).2 with
 | true =>
  refine AD' (con := [(fRNm, cRNm)]) (hints := A9' [(fWn, 2, 1, hv (.lit true))]) (lc := []) [] rfl (fun F hF => AO' (UY' F hF)) (fun F _ => noL) fun F => ?_
  refine Yj (ZY' s F) ⟨⟨?_, (AJ' (vs' := [bv (true && (Int.ofNat (numF (bts s) 0).1 == (s.size : Int)))]) (H' := []) [] rfl rfl (Yb) trivial).fits rfl⟩⟩
  simp only [Cnd.holds, Nat.blt_eq, true_and, and_true]
  and_intros
  all_goals first
   | exact h0
   | exact h0.1
   | exact hs
   | exact A0' hq | (with_reducible first | exact Ye | exact Yf | exact A4' _ | assumption) | exact Yf | ((repeat (first | exact VW.nil | refine Yg ?_ | refine Yh ?_ | refine Yi ?_)); done)
 | false =>
  refine AD' (con := [(fRNm, cRNm)]) (hints := A9' [(fWn, 2, 1, hv (.lit false)), (fWn, 2, 6, hv (bv false))]) (lc := []) [] rfl (fun F hF => AO' (UY' F hF)) (fun F _ => noL) fun F => ?_
  refine Yj (ZZ' s F) ⟨⟨?_, (AJ' (vs' := [bv (false && (Int.ofNat (numF (bts s) 0).1 == (s.size : Int)))]) (H' := []) [] rfl rfl (Yb) trivial).fits rfl⟩⟩
  simp only [Cnd.holds, Nat.blt_eq, true_and, and_true]
  and_intros
  all_goals first
   | exact h0
   | exact h0.1
   | exact hs
   | exact A0' hq
   | exact SC' rfl | (with_reducible first | exact Ye | exact Yf | exact A4' _ | assumption) | exact Yf | ((repeat (first | exact VW.nil | refine Yg ?_ | refine Yh ?_ | refine Yi ?_)); done)
theorem YW' (args : List AV) : RO (gS1 args) := by
 unfold gS1
 split
 ·exact RO.ret _
 ·exact RO.fail _
theorem GE' {W : World} (F : HP) (hF : AK' W F) : C1OK Tryz.prog F fWn cWn :=
 BR' (AK'.nothing F) (fun s => bv (EF' s)) YW' (fun _ => rfl) (fun s hs => VH' s hs) fun s => ⟨rfl, rfl, ⟨Ye, Ye⟩, A7', ⟨Ye, Ye⟩, A7'⟩
variable {W : World} {d : Nat} {l : List Jv} {r : Rj} {dep : Nat} {f : Jv → Int} {names : List ByteArray}
theorem TX' {a b : Nat} (h : a < b) : decide (Int.ofNat a < Int.ofNat b) = true := by rw [IF']; exact decide_eq_true h
theorem TY' {a : Nat} : decide (Int.ofNat a < Int.ofNat a) = false := by rw [IF']; exact decide_eq_false (Nat.lt_irrefl _)
theorem in_5 {j : Nat} (hk : r.k = Int.ofNat 5 ∨ j = 0) : LTri Tryz.prog W (A2' fWg 13) (tms 0 145 (aWi dep j 0)) (oWg r) (.exit 2) (tms 0 145 (aWg dep j)) (oWg r) := by
 refine BW' (W := W) (g := fWg) (b := A2' fWg 13) (σ := Unit) 145 (fun _ => aWi dep j 0) (fun _ => oWg r) (.exit 2) (aWg dep j) (oWg r) (fun _ => 0) [1000] iWi (by intro h; cases h) (fun _ => rfl) rfl ?_ ()
 rintro ⟨⟩
 by_cases h0 : j = 0
 ·subst h0
  refine ⟨[], A9' [(fWg, 13, 2, hv (.lit false))], [], fun _ _ => noC, fun _ _ => noL, fun F => ?_⟩
  refine Yj (YK' W r dep 0 F) ⟨⟨?_, rfl, .inr ⟨rfl, [(1000, 1000)], by kernel_rfl, by kernel_rfl, ⟨Ya, Ya, Ya, Ye⟩, ⟨_, rfl, Yc⟩, Ye⟩⟩⟩
  have e1 := TY' (a := 0)
  simp only [Cnd.holds, Nat.blt_eq, true_and, and_true]
  and_intros
  all_goals first
   | exact A0' e1 | (with_reducible first | exact Ye | exact Yf | exact A4' _ | assumption) | exact Yf | ((repeat (first | exact VW.nil | refine Yg ?_ | refine Yh ?_ | refine Yi ?_)); done)
 ·have hk5 := hk.resolve_right h0
  obtain ⟨rk, rn, rt, rla, rll, rlc, rta, rtl, rtc⟩ := r
  simp only at hk5
  subst hk5
  have e1 := TX' (a := 0) (b := j) (by omega)
  refine ⟨[], A9' [(fWg, 13, 2, hv (.lit true)), (fWg, 13, 6, hv (.lit false))], [], fun _ _ => noC, fun _ _ => noL, fun F => ?_⟩
  refine Yj (oIK_eq W ⟨Int.ofNat 5, rn, rt, rla, rll, rlc, rta, rtl, rtc⟩ dep j F) ⟨⟨?_, rfl, .inr ⟨rfl, [(1000, 1000)], by kernel_rfl, by kernel_rfl, ⟨Ya, Ya, Ya, Ye⟩, ⟨_, rfl, Yc⟩, Ye⟩⟩⟩
  simp only [Cnd.holds, Nat.blt_eq, true_and, and_true]
  and_intros
  all_goals first
   | exact A0' e1
   | exact A0' rfl | (with_reducible first | exact Ye | exact Yf | exact A4' _ | assumption) | exact Yf | ((repeat (first | exact VW.nil | refine Yg ?_ | refine Yh ?_ | refine Yi ?_)); done)
theorem in_6 {j : Nat} {nm : ByteArray} (hk : r.k = Int.ofNat 6) (an : NOf W.cell? r.na names) (hnl : r.nl = names.length) (hj : names[j]? = some nm) (b : Bool) (hb : hasN (names.take j) nm = b) (ax : AX) (Z : List (Nat × AV)) (HZ : LH) (hax : ax ≠ .normal) (hZ : AF' 1100 HZ = true)
  (hx : b = false → ax = .exit 2 ∧ Z = aWg dep j ∧ HZ = oWg r) (hr : b = true → ax = .ret ∧ Z = [(4, iv 5)] ∧ HZ = []) : LTri Tryz.prog W (A2' fWg 13) (tms 0 145 (aWi dep j 0)) (oWg r) ax (tms 0 145 Z) HZ := by
 have hjl : j < names.length := (List.getElem?_eq_some_iff.1 hj).1
 have hlen := E7' an.1 (by decide)
 have hlj : (names.take j).length = j := by rw [List.length_take]; omega
 refine BW' (W := W) (g := fWg) (b := A2' fWg 13) (σ := {k : Nat // k ≤ j ∧ hasN ((names.take j).drop k) nm = b}) 145 (fun k => aWi dep j k.1) (fun k => oWg r) ax Z HZ (fun k => j - k.1) [1000] iWi hax (fun _ => rfl) hZ ?_ ⟨0, Nat.zero_le _, hb⟩
 rintro ⟨k, hkj, hE⟩
 simp only
 by_cases h1 : k < j
 ·obtain ⟨nk, hn⟩ := BS' (l := names) (i := k) (by omega)
  obtain ⟨a, ea, p1⟩ := an.2 k nk hn
  obtain ⟨a', ea', p2⟩ := an.2 j nm hj
  obtain rfl : a = a' := Option.some.inj (ea.symm.trans ea')
  rw [show k = k * 1 by omega] at p1
  rw [show j = j * 1 by omega] at p2
  have e1 := TX' h1
  have hw := BO' k (by omega)
  have h2 : k < r.nl := by omega
  have h3 : j < r.nl := by omega
  have hdr : (names.take j).drop k = nk :: (names.take j).drop (k + 1) := I0' (by rw [List.getElem?_take, if_pos h1]; exact hn)
  rw [hdr] at hE
  unfold hasN at hE
  rw [List.any_cons] at hE
  obtain ⟨rk, rn, rt, rla, rll, rlc, rta, rtl, rtc⟩ := r
  simp only at ea hk h2 h3
  subst ea
  subst hk
  by_cases hq : nm = nk
  ·rw [decide_eq_true hq, Bool.true_or] at hE
   obtain ⟨rfl, rfl, rfl⟩ := hr hE.symm
   have he := txtTW hq.symm
   refine ⟨[], hWi k nk nm true true, [], fun _ _ => noC, fun _ _ => noL, fun F => ?_⟩
   refine Yj (oIY_eq W ⟨Int.ofNat 6, rn, rt, rla, rll, rlc, none, rtl, rtc⟩ a nk nm dep j k F) ⟨⟨?_, rfl, .inr ⟨rfl, [], by kernel_rfl, by kernel_rfl, ⟨Ya, Ye⟩, Ye⟩⟩⟩
   simp only [Cnd.holds, e1, h1, h2, h3, p1, p2, Option.getD_some, Option.isSome_some, Nat.blt_eq, true_and, and_true]
   and_intros
   all_goals first
    | exact A0' e1
    | exact A0' rfl
    | exact A0' he | (with_reducible first | exact Ye | exact Yf | exact A4' _ | assumption) | exact Yf | ((repeat (first | exact VW.nil | refine Yg ?_ | refine Yh ?_ | refine Yi ?_)); done)
  ·rw [decide_eq_false hq, Bool.false_or] at hE
   have he := txtFW (fun e => hq e.symm)
   refine ⟨[], hWi k nk nm true false, [], fun _ _ => noC, fun _ _ => noL, fun F => ?_⟩
   refine Yj (oIN_eq W ⟨Int.ofNat 6, rn, rt, rla, rll, rlc, none, rtl, rtc⟩ a nk nm dep j k F) ⟨⟨?_, rfl, .inl ⟨rfl, ⟨k + 1, h1, hE⟩, BD' h1, [(1000, 1000)], by kernel_rfl, by kernel_rfl, ⟨Ya, Ya, Ya, Ya, Ye⟩, ⟨_, rfl, Yc⟩, Ye⟩⟩⟩
   simp only [Cnd.holds, e1, h1, h2, h3, p1, p2, Option.getD_some, Option.isSome_some, Nat.blt_eq, true_and, and_true]
   and_intros
   all_goals first
    | (with_reducible exact AP' hw)
    | exact A0' e1
    | exact A0' rfl
    | exact A0' he | (with_reducible first | exact Ye | exact Yf | exact A4' _ | assumption) | exact Yf | ((repeat (first | exact VW.nil | refine Yg ?_ | refine Yh ?_ | refine Yi ?_)); done)
 ·have hje : k = j := by omega
  subst hje
  rw [List.drop_eq_nil_of_le (by omega)] at hE
  obtain ⟨rfl, rfl, rfl⟩ := hx hE.symm
  refine ⟨[], A9' [(fWg, 13, 2, hv (.lit false))], [], fun _ _ => noC, fun _ _ => noL, fun F => ?_⟩
  refine Yj (YK' W r dep k F) ⟨⟨?_, rfl, .inr ⟨rfl, [(1000, 1000)], by kernel_rfl, by kernel_rfl, ⟨Ya, Ya, Ya, Ye⟩, ⟨_, rfl, Yc⟩, Ye⟩⟩⟩
  have e1 := TY' (a := k)
  simp only [Cnd.holds, Nat.blt_eq, true_and, and_true]
  and_intros
  all_goals first
   | exact A0' e1 | (with_reducible first | exact Ye | exact Yf | exact A4' _ | assumption) | exact Yf | ((repeat (first | exact VW.nil | refine Yg ?_ | refine Yh ?_ | refine Yi ?_)); done)
theorem QP' (args : List AV) : RO (gWg args) := by
 unfold gWg
 split
 ·exact RO.ret _
 ·exact RO.fail _
theorem NG' (K : Nat → Bool) (r : Rj) : ∀ x ∈ oWg r, x.2.cl K := A1' ⟨Ye, Ye, Ye, Ye, Ye, Ye⟩ A7'
theorem YO' {j : Nat} (h : LTri Tryz.prog W (A2' fWg 13) (tms 0 145 (aWi dep j 0)) (oWg r) (.exit 2) (tms 0 145 (aWg dep j)) (oWg r)) (F : HP) (hF : AK' W F) : L1OK Tryz.prog F (A2' fWg 13) (lIn r dep j) :=
 CL' hF QP' (fun _ _ => h) fun _ => by
  simp only [RT.pick]
  exact C0' rfl rfl (A1' Ye (A1' rfl (A1' Ye (A1' Ye A7')))) (NG' _ _) (A1' Ye (A1' rfl (A1' Ye A7'))) (NG' _ _)
theorem dE' {j : Nat} (h : LTri Tryz.prog W (A2' fWg 13) (tms 0 145 (aWi dep j 0)) (oWg r) .ret (tms 0 145 [(4, iv 5)]) []) (F : HP) (hF : AK' W F) : L1OK Tryz.prog F (A2' fWg 13) (lInR r dep j) :=
 CL' hF QP' (fun _ _ => h) fun _ => by
  simp only [RT.pick]
  exact C0' rfl rfl (A1' Ye (A1' rfl (A1' Ye (A1' Ye A7')))) (NG' _ _) (A1' Ye A7') A7'
theorem QY' {x : Rj} {dep : Nat} {e : Int} (h : Tri Tryz.prog W fWg [aggJ x, iv (Int.ofNat dep)] [] (iv e) []) (F : HP) (hF : AK' W F) : C1OK Tryz.prog F fWg (cCk x dep e) :=
 BR' hF (fun _ => iv e) (fun _ => RO.ret _) (fun _ => rfl) (fun _ _ => h) fun _ => ⟨rfl, rfl, ⟨⟨Ye, Ye, Ye, Ye, Ye, Ye⟩, Ye, Ye⟩, A7', ⟨Ye, Ye⟩, A7'⟩
theorem J0' (hdep : dep < 1000000) (hf : ∀ u x, u ∈ l → JAt W.cell? d u x → Tri Tryz.prog W fWg [aggJ x, iv (Int.ofNat (dep + 1))] [] (iv (f u)) []) (al : LOf (JAt W.cell? d) W.cell? r.la l) (an : NOf W.cell? r.na names) (hll : r.ll = l.length) (hnl : r.nl = names.length) (obj : Bool) (hk : r.k = Int.ofNat 5 ∧ obj = false ∨ r.ll = 0 ∨ r.k = Int.ofNat 6 ∧ obj = true ∧ names.length = l.length) (e : Int) (he : errL f obj names 0 l = e) (ax : AX) (Z : List (Nat × AV)) (hax : ax ≠ .normal)
  (hx : e = 0 → ax = .exit 0 ∧ Z = []) (hr : e ≠ 0 → ax = .ret ∧ Z = [(4, iv e)]) : LTri Tryz.prog W (A2' fWg 10) (tms 0 145 (aWg dep 0)) (oWg r) ax (tms 0 145 Z) [] := by
 have hlen := E7' al.1 (by decide)
 refine BW' (W := W) (g := fWg) (b := A2' fWg 10) (σ := {j : Nat // j ≤ r.ll ∧ errL f obj names j (l.drop j) = e}) 145 (fun j => aWg dep j.1) (fun j => oWg r) ax Z [] (fun j => r.ll - j.1) [1000, 1100] iWg hax (fun _ => rfl) rfl ?_ ⟨0, Nat.zero_le _, he⟩
 rintro ⟨j, hj, hE⟩
 simp only
 by_cases h1 : j < r.ll
 ·obtain ⟨u, hu⟩ := BS' (l := l) (i := j) (by omega)
  obtain ⟨a, x, ea, q1, q2⟩ := al.2 j u hu
  have aA := all5 q1
  obtain ⟨a1, a2, a3, a4, a5⟩ := c5 q1
  have hw := BO' j (by omega)
  have hwd := BO' dep (by omega)
  have e1 : decide (Int.ofNat j < Int.ofNat r.ll) = true := TX' h1
  have ht := hf u x (List.mem_of_getElem? hu) q2
  rw [I0' hu] at hE
  unfold errL at hE
  have key : (∃ nm, r.k = Int.ofNat 6 ∧ names[j]? = some nm ∧ hasN (names.take j) nm = true ∧ (obj && hasN (names.take j) (names.getD j nil0)) = true) ∨ ((obj && hasN (names.take j) (names.getD j nil0)) = false ∧ LTri Tryz.prog W (A2' fWg 13) (tms 0 145 (aWi dep j 0)) (oWg r) (.exit 2) (tms 0 145 (aWg dep j)) (oWg r)) := by
   rcases hk with ⟨k1, k2⟩ | k | ⟨k1, k2, k3⟩
   ·exact .inr ⟨by rw [k2]; rfl, in_5 (.inl k1)⟩
   ·omega
   ·obtain ⟨nm, hn⟩ := BS' (l := names) (i := j) (by omega)
    have hg : names.getD j nil0 = nm := by rw [List.getD_eq_getElem?_getD, hn]; rfl
    rw [hg, k2, Bool.true_and]
    cases hq : hasN (names.take j) nm with
    | true => exact .inl ⟨nm, k1, hn, hq, rfl⟩
    | false => exact .inr ⟨rfl, in_6 k1 an hnl hn false hq _ _ _ (by intro h; cases h) rfl (fun _ => ⟨rfl, rfl, rfl⟩) (fun h => by cases h)⟩
  rcases key with ⟨nm, k1, k2, k3, k4⟩ | ⟨k1, hin⟩
  ·rw [if_pos k4] at hE
   subst hE
   obtain ⟨rfl, rfl⟩ := hr (by decide)
   have hin := in_6 (dep := dep) k1 an hnl k2 true k3 .ret [(4, iv 5)] [] (by intro h; cases h) rfl (fun h => by cases h) (fun _ => ⟨rfl, rfl, rfl⟩)
   refine ⟨[], A9' [(fWg, 10, 4, hv (.lit true))], [(fWg, 13, A2' fWg 13, lInR r dep j)], fun _ _ => noC, fun F hF => BV' (dE' hin F hF), fun F => ?_⟩
   refine Yj (a3' W r dep j F) ⟨⟨?_, rfl, .inr ⟨rfl, [], by kernel_rfl, by kernel_rfl, ⟨Ya, Ye⟩, Ye⟩⟩⟩
   simp only [Cnd.holds, Nat.blt_eq, true_and, and_true]
   and_intros
   all_goals first
    | exact A0' e1 | (with_reducible first | exact Ye | exact Yf | exact A4' _ | assumption) | exact Yf | ((repeat (first | exact VW.nil | refine Yg ?_ | refine Yh ?_ | refine Yi ?_)); done)
  ·rw [if_neg (by rw [k1]; decide)] at hE
   obtain ⟨rk, rn, rt, rla, rll, rlc, rta, rtl, rtc⟩ := r
   simp only at ea
   subst ea
   by_cases h0 : f u = 0
   ·rw [if_neg (by simpa using h0)] at hE
    rw [h0] at ht
    refine ⟨[(fWg, cCk x (dep + 1) 0)], hWg j dep x false, [(fWg, 13, A2' fWg 13, lIn ⟨rk, rn, rt, some a, rll, rlc, rta, rtl, rtc⟩ dep j)], fun F hF => AO' (QY' ht F hF), fun F hF => BV' (YO' hin F hF), fun F => ?_⟩
    refine Yj (a1' W ⟨rk, rn, rt, none, rll, rlc, rta, rtl, rtc⟩ x a dep j F) ⟨⟨?_, rfl, .inl ⟨rfl, ⟨j + 1, h1, hE⟩, BD' h1, [(1000, 1100)], by kernel_rfl, by kernel_rfl, ⟨Ya, Ya, Ya, Ye⟩, ⟨_, rfl, Yc⟩, Ye⟩⟩⟩
    simp only [Cnd.holds, e1, h1, aA, a1, a2, a3, a4, a5, Option.getD_some, Option.isSome_some, Nat.blt_eq, true_and, and_true]
    and_intros
    all_goals first
     | (with_reducible exact AP' hw)
     | (with_reducible exact AP' hwd)
     | exact A0' e1
     | exact A0' rfl
     | exact CE' rfl rfl rfl rfl rfl | (with_reducible first | exact Ye | exact Yf | exact A4' _ | assumption) | exact Yf | ((repeat (first | exact VW.nil | refine Yg ?_ | refine Yh ?_ | refine Yi ?_)); done)
   ·rw [if_pos h0] at hE
    subst hE
    obtain ⟨rfl, rfl⟩ := hr h0
    have hne : (f u != Int.ofNat 0) = true := by simpa using h0
    refine ⟨[(fWg, cCk x (dep + 1) (f u))], hWg j dep x true, [(fWg, 13, A2' fWg 13, lIn ⟨rk, rn, rt, some a, rll, rlc, rta, rtl, rtc⟩ dep j)], fun F hF => AO' (QY' ht F hF), fun F hF => BV' (YO' hin F hF), fun F => ?_⟩
    refine Yj (a0' W ⟨rk, rn, rt, none, rll, rlc, rta, rtl, rtc⟩ x a dep j (f u) F) ⟨⟨?_, rfl, .inr ⟨rfl, [], by kernel_rfl, by kernel_rfl, ⟨Ya, Ye⟩, Ye⟩⟩⟩
    simp only [Cnd.holds, e1, h1, aA, a1, a2, a3, a4, a5, Option.getD_some, Option.isSome_some, Nat.blt_eq, true_and, and_true]
    and_intros
    all_goals first
     | (with_reducible exact AP' hw)
     | (with_reducible exact AP' hwd)
     | exact A0' e1
     | exact A0' hne
     | exact A0' rfl
     | exact CE' rfl rfl rfl rfl rfl | (with_reducible first | exact Ye | exact Yf | exact A4' _ | assumption) | exact Yf | ((repeat (first | exact VW.nil | refine Yg ?_ | refine Yh ?_ | refine Yi ?_)); done)
 ·have hje : j = r.ll := by omega
  subst hje
  rw [hll, List.drop_length] at hE
  obtain ⟨rfl, rfl⟩ := hx hE.symm
  refine ⟨[], A9' [(fWg, 10, 4, hv (.lit false))], [], fun _ _ => noC, fun _ _ => noL, fun F => ?_⟩
  refine Yj (a2' W r dep F) ⟨⟨?_, rfl, .inr ⟨rfl, [], by kernel_rfl, by kernel_rfl, Ye, Ye⟩⟩⟩
  have e1 := TY' (a := r.ll)
  simp only [Cnd.holds, Nat.blt_eq, true_and, and_true]
  and_intros
  all_goals first
   | exact A0' e1 | (with_reducible first | exact Ye | exact Yf | exact A4' _ | assumption) | exact Yf | ((repeat (first | exact VW.nil | refine Yg ?_ | refine Yh ?_ | refine Yi ?_)); done)
variable {W : World} {r : Rj} {dep : Nat} {e : Int} {p : Prop}
theorem ltz {n : Int} (h : (n != Int.ofNat 0) = false) : decide (n < Int.ofNat 0) = false := by
 have := bne_eq_false_iff_eq.1 h
 exact decide_eq_false (by rw [this]; decide)
theorem gtz {n : Int} (h : (n != Int.ofNat 0) = false) : decide (n > Int.ofNat 1) = false := by
 have := bne_eq_false_iff_eq.1 h
 exact decide_eq_false (by rw [this]; decide)
theorem VW' (s : ByteArray) (z : Int) : tt (!(num (bts s)).2) 32 (tt (Int.ofNat (num (bts s)).1 != (s.size : Int)) 32 z) = tt (!EF' s) 32 z := by
 unfold EF'
 show tt _ 32 (tt (!(Int.ofNat (num (bts s)).1 == (s.size : Int))) 32 z) = _
 cases (num (bts s)).2 <;> cases (Int.ofNat (num (bts s)).1 == (s.size : Int)) <;> rfl
theorem dO' (r : Rj) (dep : Nat) : errE 3 r dep = tt (nzQ r.n) 32 (tt (!EF' r.t) 32 (tt (posQ r.ll) 32 (tt (posQ r.nl) 32 0))) := by
 rw [← VW']; rfl
theorem HX' (h : p → LTri Tryz.prog W (A2' fWg 10) (tms 0 145 (aWg dep 0)) (oWg r) (.exit 0) (tms 0 145 []) []) (F : HP) (hF : AK' W F) : L1OK Tryz.prog F (A2' fWg 10) (lWgE p r dep) :=
 CL' hF QP' (fun _ hp => h hp) fun _ => by
  simp only [RT.pick]
  exact C0' rfl rfl (A1' Ye (A1' rfl (A1' Ye A7'))) (NG' _ _) A7' A7'
theorem U2' (h : p → LTri Tryz.prog W (A2' fWg 10) (tms 0 145 (aWg dep 0)) (oWg r) .ret (tms 0 145 [(4, iv e)]) []) (F : HP) (hF : AK' W F) : L1OK Tryz.prog F (A2' fWg 10) (lWgR p r dep e) :=
 CL' hF QP' (fun _ hp => h hp) fun _ => by
  simp only [RT.pick]
  exact C0' rfl rfl (A1' Ye (A1' rfl (A1' Ye A7'))) (NG' _ _) (A1' Ye A7') A7'
theorem Y4' (h : r.k < 1) : Tri Tryz.prog W fWg [aggJ r, iv (Int.ofNat dep)] [] (iv 30) [] := by
 refine AD' (con := [(fWn, cWn)]) (hints := A9' [(fWg, 1, 2, hv (.lit true))]) (lc := []) [] rfl (fun F hF => AO' (GE' F hF)) (fun F _ => noL) fun F => ?_
 refine Yj (WB' W r dep F) ⟨⟨?_, (AJ' (vs' := [iv 30]) (H' := []) [] rfl rfl (Yb) trivial).fits rfl⟩⟩
 have h1 : decide (r.k < Int.ofNat 1) = true := decide_eq_true h
 simp only [Cnd.holds, Nat.blt_eq, true_and, and_true]
 and_intros
 all_goals first
  | exact A0' h1 | (with_reducible first | exact Ye | exact Yf | exact A4' _ | assumption) | exact Yf | ((repeat (first | exact VW.nil | refine Yg ?_ | refine Yh ?_ | refine Yi ?_)); done)
theorem Y5' (h0 : ¬ r.k < 1) (h : 6 < r.k) : Tri Tryz.prog W fWg [aggJ r, iv (Int.ofNat dep)] [] (iv 30) [] := by
 refine AD' (con := [(fWn, cWn)]) (hints := A9' [(fWg, 1, 2, hv (.lit false)), (fWg, 1, 6, hv (.lit true))]) (lc := []) [] rfl (fun F hF => AO' (GE' F hF)) (fun F _ => noL) fun F => ?_
 refine Yj (WC' W r dep F) ⟨⟨?_, (AJ' (vs' := [iv 30]) (H' := []) [] rfl rfl (Yb) trivial).fits rfl⟩⟩
 have h1 : decide (r.k < Int.ofNat 1) = false := decide_eq_false h0
 have h2 : decide (r.k > Int.ofNat 6) = true := decide_eq_true h
 simp only [Cnd.holds, Nat.blt_eq, true_and, and_true]
 and_intros
 all_goals first
  | exact A0' h1
  | exact A0' h2 | (with_reducible first | exact Ye | exact Yf | exact A4' _ | assumption) | exact Yf | ((repeat (first | exact VW.nil | refine Yg ?_ | refine Yh ?_ | refine Yi ?_)); done)
theorem wg1 (hs : Few r.t.size) (h : errE 1 r dep = 0 → LTri Tryz.prog W (A2' fWg 10) (tms 0 145 (aWg dep 0)) (oWg (kR 1 r)) (.exit 0) (tms 0 145 []) []) : Tri Tryz.prog W fWg [aggJ (kR 1 r), iv (Int.ofNat dep)] [] (iv (orE (errE 1 r dep) 0)) [] := by
 refine AD' (con := [(fWn, cWn)]) (hints := hK 1 false false) (lc := [(fWg, 10, A2' fWg 10, lWgE (errE 1 r dep = 0) (kR 1 r) dep)]) [] rfl (fun F hF => AO' (GE' F hF)) (fun F hF => BV' (HX' h F hF)) fun F => ?_
 refine cast (congrArg (VAll _) (a7' W (errE 1 r dep = 0) r dep F).symm) ?_
 repeat' refine VAll.ite (fun hq => ?_) (fun hq => ?_)
 all_goals
  refine ⟨⟨?_, (AJ' (vs' := [iv (orE (errE 1 r dep) 0)]) (H' := []) [] rfl rfl (CI' (by first
   | exact CK' (by simp only [errE, errK, tt, nzQ, txtN, posQ, BF', *, if_true, Bool.false_eq_true, if_false]; rfl) (by decide)
   | exact G4' (by simp only [errE, errK, tt, nzQ, txtN, posQ, BF', *, if_true, Bool.false_eq_true, if_false]))) trivial).fits rfl⟩⟩
  simp only [Cnd.holds, Nat.blt_eq, true_and, and_true]
  and_intros
  all_goals first
   | (with_reducible exact Ye)
   | (with_reducible exact rfl)
   | (with_reducible exact Ya)
   | (with_reducible exact Yb)
   | (with_reducible exact Yc)
   | (with_reducible exact A4' _)
   | exact hs
   | exact A0' rfl
   | exact A0' (ltz (by assumption))
   | exact A0' (gtz (by assumption))
   | (simp only [errE, errK, tt, nzQ, txtN, posQ, BF', *, if_true, Bool.false_eq_true, if_false]; done)
   | exact rfl
   | ((repeat (first | exact VW.nil | refine VW.cons Ya ?_ | refine VW.cons (Wk.any _) ?_)); done)
theorem wg2 (hs : Few r.t.size) (h : errE 2 r dep = 0 → LTri Tryz.prog W (A2' fWg 10) (tms 0 145 (aWg dep 0)) (oWg (kR 2 r)) (.exit 0) (tms 0 145 []) []) : Tri Tryz.prog W fWg [aggJ (kR 2 r), iv (Int.ofNat dep)] [] (iv (orE (errE 2 r dep) 0)) [] := by
 refine AD' (con := [(fWn, cWn)]) (hints := hK 2 false false) (lc := [(fWg, 10, A2' fWg 10, lWgE (errE 2 r dep = 0) (kR 2 r) dep)]) [] rfl (fun F hF => AO' (GE' F hF)) (fun F hF => BV' (HX' h F hF)) fun F => ?_
 refine cast (congrArg (VAll _) (a6' W (errE 2 r dep = 0) r dep F).symm) ?_
 repeat' refine VAll.ite (fun hq => ?_) (fun hq => ?_)
 all_goals
  refine ⟨⟨?_, (AJ' (vs' := [iv (orE (errE 2 r dep) 0)]) (H' := []) [] rfl rfl (CI' (by first
   | exact CK' (by simp only [errE, errK, tt, nzQ, txtN, posQ, BF', *, if_true, Bool.false_eq_true, if_false]; rfl) (by decide)
   | exact G4' (by simp only [errE, errK, tt, nzQ, txtN, posQ, BF', *, if_true, Bool.false_eq_true, if_false]))) trivial).fits rfl⟩⟩
  simp only [Cnd.holds, Nat.blt_eq, true_and, and_true]
  and_intros
  all_goals first
   | (with_reducible exact Ye)
   | (with_reducible exact rfl)
   | (with_reducible exact Ya)
   | (with_reducible exact Yb)
   | (with_reducible exact Yc)
   | (with_reducible exact A4' _)
   | exact hs
   | exact A0' rfl
   | exact A0' (ltz (by assumption))
   | exact A0' (gtz (by assumption))
   | (simp only [errE, errK, tt, nzQ, txtN, posQ, BF', *, if_true, Bool.false_eq_true, if_false]; done)
   | exact rfl
   | ((repeat (first | exact VW.nil | refine VW.cons Ya ?_ | refine VW.cons (Wk.any _) ?_)); done)
theorem wg3 (hs : Few r.t.size) (h : errE 3 r dep = 0 → LTri Tryz.prog W (A2' fWg 10) (tms 0 145 (aWg dep 0)) (oWg (kR 3 r)) (.exit 0) (tms 0 145 []) []) : Tri Tryz.prog W fWg [aggJ (kR 3 r), iv (Int.ofNat dep)] [] (iv (orE (errE 3 r dep) 0)) [] := by
 refine AD' (con := [(fWn, cWn)]) (hints := hK 3 false false) (lc := [(fWg, 10, A2' fWg 10, lWgE (errE 3 r dep = 0) (kR 3 r) dep)]) [] rfl (fun F hF => AO' (GE' F hF)) (fun F hF => BV' (HX' h F hF)) fun F => ?_
 refine cast (congrArg (VAll _) (a5' W (errE 3 r dep = 0) r dep F).symm) ?_
 repeat' refine VAll.ite (fun hq => ?_) (fun hq => ?_)
 all_goals
  refine ⟨⟨?_, (AJ' (vs' := [iv (orE (errE 3 r dep) 0)]) (H' := []) [] rfl rfl (CI' (by first
   | exact CK' (by simp only [dO', tt, nzQ, txtN, posQ, BF', *, if_true, Bool.false_eq_true, if_false]; rfl) (by decide)
   | exact G4' (by simp only [dO', tt, nzQ, txtN, posQ, BF', *, if_true, Bool.false_eq_true, if_false]))) trivial).fits rfl⟩⟩
  simp only [Cnd.holds, Nat.blt_eq, true_and, and_true]
  and_intros
  all_goals first
   | (with_reducible exact Ye)
   | (with_reducible exact rfl)
   | (with_reducible exact Ya)
   | (with_reducible exact Yb)
   | (with_reducible exact Yc)
   | (with_reducible exact A4' _)
   | exact hs
   | exact A0' rfl
   | exact A0' (ltz (by assumption))
   | exact A0' (gtz (by assumption))
   | (simp only [dO', tt, nzQ, txtN, posQ, BF', *, if_true, Bool.false_eq_true, if_false]; done)
   | exact rfl
   | ((repeat (first | exact VW.nil | refine VW.cons Ya ?_ | refine VW.cons (Wk.any _) ?_)); done)
theorem wg4 (hs : Few r.t.size) (h : errE 4 r dep = 0 → LTri Tryz.prog W (A2' fWg 10) (tms 0 145 (aWg dep 0)) (oWg (kR 4 r)) (.exit 0) (tms 0 145 []) []) : Tri Tryz.prog W fWg [aggJ (kR 4 r), iv (Int.ofNat dep)] [] (iv (orE (errE 4 r dep) 0)) [] := by
 refine AD' (con := [(fWn, cWn)]) (hints := hK 4 false false) (lc := [(fWg, 10, A2' fWg 10, lWgE (errE 4 r dep = 0) (kR 4 r) dep)]) [] rfl (fun F hF => AO' (GE' F hF)) (fun F hF => BV' (HX' h F hF)) fun F => ?_
 refine cast (congrArg (VAll _) (a4' W (errE 4 r dep = 0) r dep F).symm) ?_
 repeat' refine VAll.ite (fun hq => ?_) (fun hq => ?_)
 all_goals
  refine ⟨⟨?_, (AJ' (vs' := [iv (orE (errE 4 r dep) 0)]) (H' := []) [] rfl rfl (CI' (by first
   | exact CK' (by simp only [errE, errK, tt, nzQ, txtN, posQ, BF', *, if_true, Bool.false_eq_true, if_false]; rfl) (by decide)
   | exact G4' (by simp only [errE, errK, tt, nzQ, txtN, posQ, BF', *, if_true, Bool.false_eq_true, if_false]))) trivial).fits rfl⟩⟩
  simp only [Cnd.holds, Nat.blt_eq, true_and, and_true]
  and_intros
  all_goals first
   | (with_reducible exact Ye)
   | (with_reducible exact rfl)
   | (with_reducible exact Ya)
   | (with_reducible exact Yb)
   | (with_reducible exact Yc)
   | (with_reducible exact A4' _)
   | exact hs
   | exact A0' rfl
   | exact A0' (ltz (by assumption))
   | exact A0' (gtz (by assumption))
   | (simp only [errE, errK, tt, nzQ, txtN, posQ, BF', *, if_true, Bool.false_eq_true, if_false]; done)
   | exact rfl
   | ((repeat (first | exact VW.nil | refine VW.cons Ya ?_ | refine VW.cons (Wk.any _) ?_)); done)
theorem wg5X (hs : Few r.t.size) (h : errE 5 r dep = 0 → LTri Tryz.prog W (A2' fWg 10) (tms 0 145 (aWg dep 0)) (oWg (kR 5 r)) (.exit 0) (tms 0 145 []) []) : Tri Tryz.prog W fWg [aggJ (kR 5 r), iv (Int.ofNat dep)] [] (iv (orE (errE 5 r dep) 0)) [] := by
 refine AD' (con := [(fWn, cWn)]) (hints := hK 5 false false) (lc := [(fWg, 10, A2' fWg 10, lWgE (errE 5 r dep = 0) (kR 5 r) dep)]) [] rfl (fun F hF => AO' (GE' F hF)) (fun F hF => BV' (HX' h F hF)) fun F => ?_
 refine cast (congrArg (VAll _) (WF' W (errE 5 r dep = 0) r dep F).symm) ?_
 repeat' refine VAll.ite (fun hq => ?_) (fun hq => ?_)
 all_goals
  refine ⟨⟨?_, (AJ' (vs' := [iv (orE (errE 5 r dep) 0)]) (H' := []) [] rfl rfl (CI' (by first
   | exact CK' (by simp only [errE, errK, tt, nzQ, txtN, posQ, BF', *, if_true, Bool.false_eq_true, if_false]; rfl) (by decide)
   | exact G4' (by simp only [errE, errK, tt, nzQ, txtN, posQ, BF', *, if_true, Bool.false_eq_true, if_false]))) trivial).fits rfl⟩⟩
  simp only [Cnd.holds, Nat.blt_eq, true_and, and_true]
  and_intros
  all_goals first
   | (with_reducible exact Ye)
   | (with_reducible exact rfl)
   | (with_reducible exact Ya)
   | (with_reducible exact Yb)
   | (with_reducible exact Yc)
   | (with_reducible exact A4' _)
   | exact hs
   | exact A0' rfl
   | exact A0' (ltz (by assumption))
   | exact A0' (gtz (by assumption))
   | (simp only [errE, errK, tt, nzQ, txtN, posQ, BF', *, if_true, Bool.false_eq_true, if_false]; done)
   | exact rfl
   | ((repeat (first | exact VW.nil | refine VW.cons Ya ?_ | refine VW.cons (Wk.any _) ?_)); done)
theorem wg5T (hs : Few r.t.size) (h : errE 5 r dep = 0 → LTri Tryz.prog W (A2' fWg 10) (tms 0 145 (aWg dep 0)) (oWg (kR 5 r)) .ret (tms 0 145 [(4, iv e)]) []) : Tri Tryz.prog W fWg [aggJ (kR 5 r), iv (Int.ofNat dep)] [] (iv (orE (errE 5 r dep) e)) [] := by
 refine AD' (con := [(fWn, cWn)]) (hints := hK 5 false false) (lc := [(fWg, 10, A2' fWg 10, lWgR (errE 5 r dep = 0) (kR 5 r) dep e)]) [] rfl (fun F hF => AO' (GE' F hF)) (fun F hF => BV' (U2' h F hF)) fun F => ?_
 refine cast (congrArg (VAll _) (WG' W (errE 5 r dep = 0) r dep e F).symm) ?_
 repeat' refine VAll.ite (fun hq => ?_) (fun hq => ?_)
 all_goals
  refine ⟨⟨?_, (AJ' (vs' := [iv (orE (errE 5 r dep) e)]) (H' := []) [] rfl rfl (CI' (by first
   | exact CK' (by simp only [errE, errK, tt, nzQ, txtN, posQ, BF', *, if_true, Bool.false_eq_true, if_false]; rfl) (by decide)
   | exact G4' (by simp only [errE, errK, tt, nzQ, txtN, posQ, BF', *, if_true, Bool.false_eq_true, if_false]))) trivial).fits rfl⟩⟩
  simp only [Cnd.holds, Nat.blt_eq, true_and, and_true]
  and_intros
  all_goals first
   | (with_reducible exact Ye)
   | (with_reducible exact rfl)
   | (with_reducible exact Ya)
   | (with_reducible exact Yb)
   | (with_reducible exact Yc)
   | (with_reducible exact A4' _)
   | exact hs
   | exact A0' rfl
   | exact A0' (ltz (by assumption))
   | exact A0' (gtz (by assumption))
   | (simp only [errE, errK, tt, nzQ, txtN, posQ, BF', *, if_true, Bool.false_eq_true, if_false]; done)
   | exact rfl
   | ((repeat (first | exact VW.nil | refine VW.cons Ya ?_ | refine VW.cons (Wk.any _) ?_)); done)
theorem wg6X (hs : Few r.t.size) (h : errE 6 r dep = 0 → LTri Tryz.prog W (A2' fWg 10) (tms 0 145 (aWg dep 0)) (oWg (kR 6 r)) (.exit 0) (tms 0 145 []) []) : Tri Tryz.prog W fWg [aggJ (kR 6 r), iv (Int.ofNat dep)] [] (iv (orE (errE 6 r dep) 0)) [] := by
 refine AD' (con := [(fWn, cWn)]) (hints := hK 6 false false) (lc := [(fWg, 10, A2' fWg 10, lWgE (errE 6 r dep = 0) (kR 6 r) dep)]) [] rfl (fun F hF => AO' (GE' F hF)) (fun F hF => BV' (HX' h F hF)) fun F => ?_
 refine cast (congrArg (VAll _) (WD' W (errE 6 r dep = 0) r dep F).symm) ?_
 repeat' refine VAll.ite (fun hq => ?_) (fun hq => ?_)
 all_goals
  refine ⟨⟨?_, (AJ' (vs' := [iv (orE (errE 6 r dep) 0)]) (H' := []) [] rfl rfl (CI' (by first
   | exact CK' (by simp only [errE, errK, tt, nzQ, txtN, posQ, BF', *, if_true, Bool.false_eq_true, if_false]; rfl) (by decide)
   | exact G4' (by simp only [errE, errK, tt, nzQ, txtN, posQ, BF', *, if_true, Bool.false_eq_true, if_false]))) trivial).fits rfl⟩⟩
  simp only [Cnd.holds, Nat.blt_eq, true_and, and_true]
  and_intros
  all_goals first
   | (with_reducible exact Ye)
   | (with_reducible exact rfl)
   | (with_reducible exact Ya)
   | (with_reducible exact Yb)
   | (with_reducible exact Yc)
   | (with_reducible exact A4' _)
   | exact hs
   | exact A0' rfl
   | exact A0' (ltz (by assumption))
   | exact A0' (gtz (by assumption))
   | (simp only [errE, errK, tt, nzQ, txtN, posQ, BF', *, if_true, Bool.false_eq_true, if_false]; done)
   | exact rfl
   | ((repeat (first | exact VW.nil | refine VW.cons Ya ?_ | refine VW.cons (Wk.any _) ?_)); done)
theorem wg6T (hs : Few r.t.size) (h : errE 6 r dep = 0 → LTri Tryz.prog W (A2' fWg 10) (tms 0 145 (aWg dep 0)) (oWg (kR 6 r)) .ret (tms 0 145 [(4, iv e)]) []) : Tri Tryz.prog W fWg [aggJ (kR 6 r), iv (Int.ofNat dep)] [] (iv (orE (errE 6 r dep) e)) [] := by
 refine AD' (con := [(fWn, cWn)]) (hints := hK 6 false false) (lc := [(fWg, 10, A2' fWg 10, lWgR (errE 6 r dep = 0) (kR 6 r) dep e)]) [] rfl (fun F hF => AO' (GE' F hF)) (fun F hF => BV' (U2' h F hF)) fun F => ?_
 refine cast (congrArg (VAll _) (WE' W (errE 6 r dep = 0) r dep e F).symm) ?_
 repeat' refine VAll.ite (fun hq => ?_) (fun hq => ?_)
 all_goals
  refine ⟨⟨?_, (AJ' (vs' := [iv (orE (errE 6 r dep) e)]) (H' := []) [] rfl rfl (CI' (by first
   | exact CK' (by simp only [errE, errK, tt, nzQ, txtN, posQ, BF', *, if_true, Bool.false_eq_true, if_false]; rfl) (by decide)
   | exact G4' (by simp only [errE, errK, tt, nzQ, txtN, posQ, BF', *, if_true, Bool.false_eq_true, if_false]))) trivial).fits rfl⟩⟩
  simp only [Cnd.holds, Nat.blt_eq, true_and, and_true]
  and_intros
  all_goals first
   | (with_reducible exact Ye)
   | (with_reducible exact rfl)
   | (with_reducible exact Ya)
   | (with_reducible exact Yb)
   | (with_reducible exact Yc)
   | (with_reducible exact A4' _)
   | exact hs
   | exact A0' rfl
   | exact A0' (ltz (by assumption))
   | exact A0' (gtz (by assumption))
   | (simp only [errE, errK, tt, nzQ, txtN, posQ, BF', *, if_true, Bool.false_eq_true, if_false]; done)
   | exact rfl
   | ((repeat (first | exact VW.nil | refine VW.cons Ya ?_ | refine VW.cons (Wk.any _) ?_)); done)
theorem ID' (W : World) : ∀ (d : Nat) (v : Jv) (r : Rj) (dep : Nat), JAt W.cell? d v r → wJ d v ≤ 4000000 → dep ≤ 17 → Tri Tryz.prog W fWg [aggJ r, iv (Int.ofNat dep)] [] (iv (errJ d v dep)) []
 | 0, _, _, _, h, _, _ => h.elim
 | d + 1, v, r, dep, h, hw, hdep => by
  obtain ⟨⟨i1, i2, i3, i4, i5⟩, al, af⟩ := h
  have hs : Few r.t.size := by
   have := SE' d v
   rw [← i3] at this
   unfold Few; omega
  have hf : dep ≤ 16 → ∀ u x, u ∈ v.list → JAt W.cell? d u x → Tri Tryz.prog W fWg [aggJ x, iv (Int.ofNat (dep + 1))] [] (iv (errJ d u (dep + 1))) [] := fun hd u x hu hj => by
   have := YD' (L := d) hu
   exact ID' W d u x (dep + 1) hj (by omega) (by omega)
  rw [JX']
  obtain ⟨e, he⟩ : ∃ e, errL (fun x => errJ d x (dep + 1)) (v.kind == 6) v.names 0 v.list = e := ⟨_, rfl⟩
  rw [he]
  unfold errT
  by_cases hlo : v.kind < 1
  ·rw [if_pos hlo, CK' rfl (by decide)]
   exact Y4' (by rw [i1]; exact hlo)
  rw [if_neg hlo]
  by_cases hhi : 6 < v.kind
  ·rw [if_pos hhi, CK' rfl (by decide)]
   exact Y5' (by rw [i1]; exact hlo) (by rw [i1]; exact hhi)
  rw [if_neg hhi]
  obtain ⟨K, hK⟩ : ∃ K : Nat, v.kind = Int.ofNat K := ⟨v.kind.toNat, by simp only [Z0]; omega⟩
  have hKn : v.kind.toNat = K := by rw [hK]; rfl
  have hrk : r.k = Int.ofNat K := i1.trans hK
  have hkr := ST' K hrk
  have hee : errK v.kind.toNat v.num v.text v.list.length v.names.length dep = errE K r dep := by rw [hKn, ← i2, ← i3, ← i4, ← i5]; rfl
  rw [hee]
  have hKc : K = 1 ∨ K = 2 ∨ K = 3 ∨ K = 4 ∨ K = 5 ∨ K = 6 := by
   have h1 : ¬ (K : Int) < 1 := by rw [hK] at hlo; exact hlo
   have h2 : ¬ 6 < (K : Int) := by rw [hK] at hhi; exact hhi
   omega
  have hobj : K ≠ 6 → (v.kind == 6) = false := fun h => beq_eq_false_iff_ne.2 (by rw [hK]; intro e; exact h (Int.ofNat.inj e))
  have hsmall : 1 ≤ K → K ≤ 4 → errE K r dep = 0 → e = 0 ∧ LTri Tryz.prog W (A2' fWg 10) (tms 0 145 (aWg dep 0)) (oWg r) (.exit 0) (tms 0 145 []) [] := fun h1 h4 h0 => by
   have hll := UL' h1 h4 h0
   have hnil : v.list = [] := List.eq_nil_of_length_eq_zero (by omega)
   have he0 : e = 0 := by rw [← he, hnil]; rfl
   refine ⟨he0, J0' (d := d) (l := v.list) (names := v.names) (f := fun x => errJ d x (dep + 1)) (by omega) (fun u x hu => by rw [hnil] at hu; cases hu) al af i4 i5 false (.inr (.inl hll)) e (by rw [← he, hobj (by omega)]) (.exit 0) [] (by intro h; cases h) (fun _ => ⟨rfl, rfl⟩) (fun h => absurd he0 h)⟩
  rcases hKc with rfl | rfl | rfl | rfl | rfl | rfl
  ·have := wg1 (W := W) (dep := dep) hs fun h0 => by rw [hkr]; exact (hsmall (by decide) (by decide) h0).2
   rw [hkr] at this
   by_cases h0 : errE 1 r dep = 0
   ·rw [(hsmall (by decide) (by decide) h0).1]; exact this
   ·rw [CK' rfl h0] at this ⊢; exact this
  ·have := wg2 (W := W) (dep := dep) hs fun h0 => by rw [hkr]; exact (hsmall (by decide) (by decide) h0).2
   rw [hkr] at this
   by_cases h0 : errE 2 r dep = 0
   ·rw [(hsmall (by decide) (by decide) h0).1]; exact this
   ·rw [CK' rfl h0] at this ⊢; exact this
  ·have := wg3 (W := W) (dep := dep) hs fun h0 => by rw [hkr]; exact (hsmall (by decide) (by decide) h0).2
   rw [hkr] at this
   by_cases h0 : errE 3 r dep = 0
   ·rw [(hsmall (by decide) (by decide) h0).1]; exact this
   ·rw [CK' rfl h0] at this ⊢; exact this
  ·have := wg4 (W := W) (dep := dep) hs fun h0 => by rw [hkr]; exact (hsmall (by decide) (by decide) h0).2
   rw [hkr] at this
   by_cases h0 : errE 4 r dep = 0
   ·rw [(hsmall (by decide) (by decide) h0).1]; exact this
   ·rw [CK' rfl h0] at this ⊢; exact this
  ·by_cases h0 : e = 0
   ·have := wg5X (W := W) (dep := dep) hs fun hz => by
     rw [hkr]
     exact J0' (d := d) (l := v.list) (names := v.names) (f := fun x => errJ d x (dep + 1)) (by omega) (hf (DI' (.inl rfl) hz)) al af i4 i5 false (.inl ⟨hrk, rfl⟩) e (by rw [← he, hobj (by decide)]) (.exit 0) [] (by intro h; cases h) (fun _ => ⟨rfl, rfl⟩) (fun h => absurd h0 h)
    rw [hkr] at this
    rw [h0]; exact this
   ·have := wg5T (W := W) (dep := dep) (e := e) hs fun hz => by
     rw [hkr]
     exact J0' (d := d) (l := v.list) (names := v.names) (f := fun x => errJ d x (dep + 1)) (by omega) (hf (DI' (.inl rfl) hz)) al af i4 i5 false (.inl ⟨hrk, rfl⟩) e (by rw [← he, hobj (by decide)]) .ret _ (by intro h; cases h) (fun h => absurd h h0) (fun _ => ⟨rfl, rfl⟩)
    rw [hkr] at this
    exact this
  ·have hob : (v.kind == 6) = true := by rw [hK]; rfl
   by_cases h0 : e = 0
   ·have := wg6X (W := W) (dep := dep) hs fun hz => by
     rw [hkr]
     have hnl := HZ' hz
     exact J0' (d := d) (l := v.list) (names := v.names) (f := fun x => errJ d x (dep + 1)) (by omega) (hf (DI' (.inr rfl) hz)) al af i4 i5 true (.inr (.inr ⟨hrk, rfl, by omega⟩)) e (by rw [← he, hob]) (.exit 0) [] (by intro h; cases h) (fun _ => ⟨rfl, rfl⟩) (fun h => absurd h0 h)
    rw [hkr] at this
    rw [h0]; exact this
   ·have := wg6T (W := W) (dep := dep) (e := e) hs fun hz => by
     rw [hkr]
     have hnl := HZ' hz
     exact J0' (d := d) (l := v.list) (names := v.names) (f := fun x => errJ d x (dep + 1)) (by omega) (hf (DI' (.inr rfl) hz)) al af i4 i5 true (.inr (.inr ⟨hrk, rfl, by omega⟩)) e (by rw [← he, hob]) .ret _ (by intro h; cases h) (fun h => absurd h h0) (fun _ => ⟨rfl, rfl⟩)
    rw [hkr] at this
    exact this
theorem HP' {z : Int} (n : Nat) (h : z = Int.ofNat n) (hn : n < 9223372036854775807) : Wk (AV.v (.int .i64 (IntKind.i64.wrap z))) (AV.v (.int .i64 (Int.ofNat n))) := by
 subst h
 have : IntKind.i64.wrap (Int.ofNat n) = Int.ofNat n := IntWalk.i64_in _ (by simp only [Z0]; omega)
 rw [this]; exact Ya
variable {s : ByteArray} {i : Nat}
theorem I3' (hs : Few s.size) (n m c0 : Nat) (hn : n ≤ 4) (h1n : 1 ≤ n) (hin : i + n ≤ s.size) (hc : c0 < 64) (o : Option Nat) (ho : chK (bts s) i (n - 1) 1 c0 = o) (ax : AX) (Z : List (Nat × AV)) (hax : ax ≠ .normal)
  (hx : ∀ v, o = some v → ax = .exit 1 ∧ Z = zCh v n m) (hr : o = none → ax = .ret ∧ Z = [(4, iv 0)]) : LTri Tryz.prog default (A2' fCh 14) (tms 0 92 (aCh s i c0 n m 1)) [] ax (tms 0 92 Z) [] := by
 refine BW' (W := default) (g := fCh) (b := A2' fCh 14) (σ := {p : Nat × Nat // p.1 ≤ n ∧ p.2 < 64 ^ p.1 ∧ chK (bts s) i (n - p.1) p.1 p.2 = o}) 92 (fun p => aCh s i p.1.2 n m p.1.1) (fun p => []) ax Z [] (fun p => n - p.1.1) [] iCh hax (fun _ => rfl) rfl ?_ ⟨(1, c0), h1n, by simpa using hc, ho⟩
 rintro ⟨⟨k, c⟩, hk, hck, hE⟩
 simp only at hk hck hE ⊢
 by_cases h1 : k < n
 ·obtain ⟨x, hx0⟩ : ∃ x, (bts s).getD (i + k) 0 = x := ⟨_, rfl⟩
  have hik : i + k < s.size := by omega
  have hby := HJ' hx0
  have hxn := x.toNat_lt
  have e1 := TX' h1
  have hc3 : c < 262144 := by
   have : 64 ^ k ≤ 64 ^ 3 := Nat.pow_le_pow_right (by decide) (by omega)
   omega
  have w1 : Wk (AV.v (.int .i64 (IntKind.i64.wrap (Int.ofNat i + Int.ofNat k)))) (AV.v (.int .i64 (Int.ofNat (i + k)))) := HP' (i + k) rfl (by unfold Few at hs; omega)
  have w2 : Wk (AV.v (.int .i64 (IntKind.i64.wrap (x.toNat : Int)))) (AV.v (.int .i64 (Int.ofNat x.toNat))) := HP' x.toNat rfl (by omega)
  have w6 := BO' k (by omega)
  rw [show n - k = (n - (k + 1)) + 1 by omega, chK, hx0] at hE
  by_cases hlo : x.toNat < 128
  ·rw [if_pos hlo] at hE
   obtain ⟨rfl, rfl⟩ := hr hE.symm
   have e2 := ltT hlo
   refine ⟨[], hCh x i c k true false, [], fun _ _ => noC, fun _ _ => noL, fun F => ?_⟩
   refine Yj (d7' s i c n m k x F) ⟨⟨?_, rfl, .inr ⟨rfl, [], by kernel_rfl, by kernel_rfl, ⟨Ya, Ye⟩, Ye⟩⟩⟩
   simp only [Cnd.holds, Nat.blt_eq, true_and, and_true]
   and_intros
   all_goals first
    | (with_reducible exact A0' e1)
    | (with_reducible exact A0' e2)
    | (with_reducible exact w1)
    | (with_reducible exact w2)
    | (with_reducible exact hik)
    | exact hby | (with_reducible first | exact Ye | exact Yf | exact A4' _ | assumption) | exact Yf | ((repeat (first | exact VW.nil | refine Yg ?_ | refine Yh ?_ | refine Yi ?_)); done)
  rw [if_neg hlo] at hE
  have e2 := ltF (Nat.le_of_not_lt hlo)
  by_cases hhi : 191 < x.toNat
  ·rw [if_pos hhi] at hE
   obtain ⟨rfl, rfl⟩ := hr hE.symm
   have e3 := gtT hhi
   refine ⟨[], hCh x i c k false true, [], fun _ _ => noC, fun _ _ => noL, fun F => ?_⟩
   refine Yj (d8' s i c n m k x F) ⟨⟨?_, rfl, .inr ⟨rfl, [], by kernel_rfl, by kernel_rfl, ⟨Ya, Ye⟩, Ye⟩⟩⟩
   simp only [Cnd.holds, Nat.blt_eq, true_and, and_true]
   and_intros
   all_goals first
    | (with_reducible exact A0' e1)
    | (with_reducible exact A0' e2)
    | (with_reducible exact A0' e3)
    | (with_reducible exact w1)
    | (with_reducible exact w2)
    | (with_reducible exact hik)
    | exact hby | (with_reducible first | exact Ye | exact Yf | exact A4' _ | assumption) | exact Yf | ((repeat (first | exact VW.nil | refine Yg ?_ | refine Yh ?_ | refine Yi ?_)); done)
  rw [if_neg hhi] at hE
  have e3 := gtF (Nat.le_of_not_lt hhi)
  have w3 : Wk (AV.v (.int .i64 (IntKind.i64.wrap (Int.ofNat c * Int.ofNat 64)))) (AV.v (.int .i64 (Int.ofNat (c * 64)))) := HP' (c * 64) rfl (by omega)
  have w4 : Wk (AV.v (.int .i64 (IntKind.i64.wrap (Int.ofNat (c * 64) + Int.ofNat x.toNat)))) (AV.v (.int .i64 (Int.ofNat (c * 64 + x.toNat)))) := HP' (c * 64 + x.toNat) rfl (by omega)
  have w5 : Wk (AV.v (.int .i64 (IntKind.i64.wrap (Int.ofNat (c * 64 + x.toNat) - Int.ofNat 128)))) (AV.v (.int .i64 (Int.ofNat (c * 64 + x.toNat - 128)))) := HP' (c * 64 + x.toNat - 128) (by simp only [Z0]; omega) (by omega)
  have hnx : c * 64 + x.toNat - 128 < 64 ^ (k + 1) := by rw [Nat.pow_succ]; omega
  refine ⟨[], hCh x i c k false false, [], fun _ _ => noC, fun _ _ => noL, fun F => ?_⟩
  refine Yj (d6' s i c n m k x F) ⟨⟨?_, rfl, .inl ⟨rfl, ⟨(k + 1, c * 64 + x.toNat - 128), h1, hnx, hE⟩, BD' h1, [], by kernel_rfl, by kernel_rfl, ⟨Ya, Ya, Ya, Ya, Ya, Ya, Ye⟩, Ye⟩⟩⟩
  simp only [Cnd.holds, Nat.blt_eq, true_and, and_true]
  and_intros
  all_goals first
   | (with_reducible exact A0' e1)
   | (with_reducible exact A0' e2)
   | (with_reducible exact A0' e3)
   | (with_reducible exact w1)
   | (with_reducible exact w2)
   | (with_reducible exact w3)
   | (with_reducible exact w4)
   | (with_reducible exact w5)
   | (with_reducible exact AP' w6)
   | (with_reducible exact hik)
   | exact hby | (with_reducible first | exact Ye | exact Yf | exact A4' _ | assumption) | exact Yf | ((repeat (first | exact VW.nil | refine Yg ?_ | refine Yh ?_ | refine Yi ?_)); done)
 ·have hkn : k = n := by omega
  subst hkn
  rw [Nat.sub_self, chK] at hE
  obtain ⟨rfl, rfl⟩ := hx c hE.symm
  have e1 := TY' (a := k)
  refine ⟨[], A9' [(fCh, 14, 2, hv (.lit false))], [], fun _ _ => noC, fun _ _ => noL, fun F => ?_⟩
  refine Yj (d9' s i c k m F) ⟨⟨?_, rfl, .inr ⟨rfl, [], by kernel_rfl, by kernel_rfl, ⟨Ya, Ya, Ya, Ye⟩, Ye⟩⟩⟩
  simp only [Cnd.holds, Nat.blt_eq, true_and, and_true]
  and_intros
  all_goals first
   | (with_reducible exact A0' e1) | (with_reducible first | exact Ye | exact Yf | exact A4' _ | assumption) | exact Yf | ((repeat (first | exact VW.nil | refine Yg ?_ | refine Yh ?_ | refine Yi ?_)); done)
theorem ZC' (s : ByteArray) (i c n m k : Nat) (K : Nat → Bool) : ∀ x ∈ aCh s i c n m k, AV.cl K x.2 := A1' Ye (A1' Ye (A1' Ye (A1' Ye (A1' Ye (A1' Ye A7')))))
theorem P6' {n m c v : Nat} (h : LTri Tryz.prog default (A2' fCh 14) (tms 0 92 (aCh s i c n m 1)) [] (.exit 1) (tms 0 92 (zCh v n m)) []) (F : HP) (hF : AK' default F) : L1OK Tryz.prog F (A2' fCh 14) (lChE s i c n m v) :=
 CL' hF (fun _ => RO.ret _) (fun _ _ => h) fun _ => by
  simp only [RT.pick]
  exact C0' rfl rfl (ZC' _ _ _ _ _ _ _) A7' (A1' Ye (A1' Ye (A1' Ye A7'))) A7'
theorem P5' {n m c : Nat} (h : LTri Tryz.prog default (A2' fCh 14) (tms 0 92 (aCh s i c n m 1)) [] .ret (tms 0 92 [(4, iv 0)]) []) (F : HP) (hF : AK' default F) : L1OK Tryz.prog F (A2' fCh 14) (lChR s i c n m) :=
 CL' hF (fun _ => RO.ret _) (fun _ _ => h) fun _ => by
  simp only [RT.pick]
  exact C0' rfl rfl (ZC' _ _ _ _ _ _ _) A7' (A1' Ye A7') A7'
variable {c : UInt8}
theorem cw (c : UInt8) : Wk (AV.v (.int .i64 (IntKind.i64.wrap (c.toNat : Int)))) (AV.v (.int .i64 (Int.ofNat c.toNat))) := HP' c.toNat rfl (by have := c.toNat_lt; omega)
theorem tChA (hs : Few s.size) (hi : i < s.size) (hc : (bts s).getD i 0 = c) (l1 : c.toNat < 128) : Tri Tryz.prog default fCh [sv s, iv (Int.ofNat i)] [] (iv 1) [] := by
 have hby := HJ' hc
 have q0 := ltT l1
 refine AD' (con := []) (hints := A9' [(fCh, 1, 2, h0v (byv c)), (fCh, 1, 3, hv (iv (Int.ofNat (c.toNat)))), (fCh, 3, 1, hv (.lit true))]) (lc := []) [] rfl (fun F _ => noC) (fun F _ => noL) fun F => ?_
 refine Yj (d5' s i c F) ⟨⟨?_, (AJ' (vs' := [iv 1]) (H' := []) [] rfl rfl (Yb) trivial).fits rfl⟩⟩
 simp only [Cnd.holds, Nat.blt_eq, true_and, and_true]
 and_intros
 all_goals first
  | (with_reducible exact A0' q0)
  | (with_reducible exact cw c)
  | (with_reducible exact hi)
  | exact hby
  | exact A0' rfl | (with_reducible first | exact Ye | exact Yf | exact A4' _ | assumption) | exact Yf | ((repeat (first | exact VW.nil | refine Yg ?_ | refine Yh ?_ | refine Yi ?_)); done)
theorem tChL (hs : Few s.size) (hi : i < s.size) (hc : (bts s).getD i 0 = c) (l1 : 128 ≤ c.toNat) (l2 : c.toNat < 192) : Tri Tryz.prog default fCh [sv s, iv (Int.ofNat i)] [] (iv 0) [] := by
 have hby := HJ' hc
 have q0 := ltF l1
 have q1 := geF l2
 have q2 := geF (show c.toNat < 224 by omega)
 have q3 := geF (show c.toNat < 240 by omega)
 refine AD' (con := []) (hints := A9' [(fCh, 1, 2, h0v (byv c)), (fCh, 1, 3, hv (iv (Int.ofNat (c.toNat)))), (fCh, 3, 1, hv (.lit false)), (fCh, 5, 1, hv (.lit false)), (fCh, 7, 1, hv (.lit false)), (fCh, 9, 1, hv (.lit false)), (fCh, 11, 1, hv (.lit true))]) (lc := []) [] rfl (fun F _ => noC) (fun F _ => noL) fun F => ?_
 refine Yj (d0' s i c F) ⟨⟨?_, (AJ' (vs' := [iv 0]) (H' := []) [] rfl rfl (Yb) trivial).fits rfl⟩⟩
 simp only [Cnd.holds, Nat.blt_eq, true_and, and_true]
 and_intros
 all_goals first
  | (with_reducible exact A0' q0)
  | (with_reducible exact A0' q1)
  | (with_reducible exact A0' q2)
  | (with_reducible exact A0' q3)
  | (with_reducible exact cw c)
  | (with_reducible exact hi)
  | exact hby
  | exact A0' rfl | (with_reducible first | exact Ye | exact Yf | exact A4' _ | assumption) | exact Yf | ((repeat (first | exact VW.nil | refine Yg ?_ | refine Yh ?_ | refine Yi ?_)); done)
theorem tChH (hs : Few s.size) (hi : i < s.size) (hc : (bts s).getD i 0 = c) (l1 : 248 ≤ c.toNat) : Tri Tryz.prog default fCh [sv s, iv (Int.ofNat i)] [] (iv 0) [] := by
 have hby := HJ' hc
 have q0 := ltF (show 128 ≤ c.toNat by omega)
 have q1 := geT (show 192 ≤ c.toNat by omega)
 have q2 := ltF (show 224 ≤ c.toNat by omega)
 have q3 := geT (show 224 ≤ c.toNat by omega)
 have q4 := ltF (show 240 ≤ c.toNat by omega)
 have q5 := geT (show 240 ≤ c.toNat by omega)
 have q6 := ltF l1
 refine AD' (con := []) (hints := A9' [(fCh, 1, 2, h0v (byv c)), (fCh, 1, 3, hv (iv (Int.ofNat (c.toNat)))), (fCh, 3, 1, hv (.lit false)), (fCh, 5, 1, hv (.lit true)), (fCh, 5, 4, hv (.lit false)), (fCh, 7, 1, hv (.lit true)), (fCh, 7, 4, hv (.lit false)), (fCh, 9, 1, hv (.lit true)), (fCh, 9, 4, hv (.lit false)), (fCh, 11, 1, hv (.lit true))]) (lc := []) [] rfl (fun F _ => noC) (fun F _ => noL) fun F => ?_
 refine Yj (d3' s i c F) ⟨⟨?_, (AJ' (vs' := [iv 0]) (H' := []) [] rfl rfl (Yb) trivial).fits rfl⟩⟩
 simp only [Cnd.holds, Nat.blt_eq, true_and, and_true]
 and_intros
 all_goals first
  | (with_reducible exact A0' q0)
  | (with_reducible exact A0' q1)
  | (with_reducible exact A0' q2)
  | (with_reducible exact A0' q3)
  | (with_reducible exact A0' q4)
  | (with_reducible exact A0' q5)
  | (with_reducible exact A0' q6)
  | (with_reducible exact cw c)
  | (with_reducible exact hi)
  | exact hby
  | exact A0' rfl | (with_reducible first | exact Ye | exact Yf | exact A4' _ | assumption) | exact Yf | ((repeat (first | exact VW.nil | refine Yg ?_ | refine Yh ?_ | refine Yi ?_)); done)
theorem tCh2S (hs : Few s.size) (hi : i < s.size) (hc : (bts s).getD i 0 = c) (l1 : 192 ≤ c.toNat) (l2 : c.toNat < 224) (hsh : s.size - i < 2) : Tri Tryz.prog default fCh [sv s, iv (Int.ofNat i)] [] (iv 0) [] := by
 have hby := HJ' hc
 have q2 := ltF (show 128 ≤ c.toNat by omega)
 have q3 := geT (show 192 ≤ c.toNat by omega)
 have q4 := ltT l2
 have w1 : Wk (AV.v (.int .i64 (IntKind.i64.wrap (Int.ofNat c.toNat - Int.ofNat 192)))) (AV.v (.int .i64 (Int.ofNat (c.toNat - 192)))) := HP' (c.toNat - 192) (by simp only [Z0]; omega) (by have := c.toNat_lt; omega)
 have hws : IntKind.i64.wrap ((s.size : Int) - Int.ofNat i) = Int.ofNat (s.size - i) := by
  rw [show (s.size : Int) - Int.ofNat i = Int.ofNat (s.size - i) by simp only [Z0]; omega]
  unfold Few at hs
  exact IntWalk.i64_in _ (by simp only [Z0]; omega)
 have g1 : decide (Int.ofNat 2 > IntKind.i64.wrap ((s.size : Int) - Int.ofNat i)) = true := by rw [hws]; exact gtT hsh
 refine AD' (con := []) (hints := A9' [(fCh, 1, 2, h0v (byv c)), (fCh, 1, 3, hv (iv (Int.ofNat (c.toNat)))), (fCh, 3, 1, hv (.lit false)), (fCh, 5, 1, hv (.lit true)), (fCh, 5, 4, hv (.lit true)), (fCh, 6, 1, hv (iv (Int.ofNat (c.toNat - 192)))), (fCh, 11, 1, hv (.lit false)), (fCh, 11, 8, hv (.lit true))]) (lc := []) [] rfl (fun F _ => noC) (fun F _ => noL) fun F => ?_
 refine Yj (X5' s i c F) ⟨⟨?_, (AJ' (vs' := [iv 0]) (H' := []) [] rfl rfl (Yb) trivial).fits rfl⟩⟩
 simp only [Cnd.holds, Nat.blt_eq, true_and, and_true]
 and_intros
 all_goals first
  | (with_reducible exact A0' q2)
  | (with_reducible exact A0' q3)
  | (with_reducible exact A0' q4)
  | (with_reducible exact cw c)
  | (with_reducible exact hi)
  | exact hby
  | (with_reducible exact w1)
  | (with_reducible exact A0' g1)
  | exact A0' rfl | (with_reducible first | exact Ye | exact Yf | exact A4' _ | assumption) | exact Yf | ((repeat (first | exact VW.nil | refine Yg ?_ | refine Yh ?_ | refine Yi ?_)); done)
theorem tCh2 (hs : Few s.size) (hi : i < s.size) (hc : (bts s).getD i 0 = c) (l1 : 192 ≤ c.toNat) (l2 : c.toNat < 224) (hln : 2 ≤ s.size - i) : Tri Tryz.prog default fCh [sv s, iv (Int.ofNat i)] [] (iv (Int.ofNat (finO (chK (bts s) i 1 1 (c.toNat - 192)) 128 2))) [] := by
 have hby := HJ' hc
 have q2 := ltF (show 128 ≤ c.toNat by omega)
 have q3 := geT (show 192 ≤ c.toNat by omega)
 have q4 := ltT l2
 have w1 : Wk (AV.v (.int .i64 (IntKind.i64.wrap (Int.ofNat c.toNat - Int.ofNat 192)))) (AV.v (.int .i64 (Int.ofNat (c.toNat - 192)))) := HP' (c.toNat - 192) (by simp only [Z0]; omega) (by have := c.toNat_lt; omega)
 have hws : IntKind.i64.wrap ((s.size : Int) - Int.ofNat i) = Int.ofNat (s.size - i) := by
  rw [show (s.size : Int) - Int.ofNat i = Int.ofNat (s.size - i) by simp only [Z0]; omega]
  unfold Few at hs
  exact IntWalk.i64_in _ (by simp only [Z0]; omega)
 have g1 : decide (Int.ofNat 2 > IntKind.i64.wrap ((s.size : Int) - Int.ofNat i)) = false := by rw [hws]; exact gtF hln
 have hc6 : c.toNat - 192 < 64 := by omega
 cases ho : chK (bts s) i 1 1 (c.toNat - 192) with
 | none =>
  have hl := I3' (i := i) hs 2 128 (c.toNat - 192) (by decide) (by decide) (by omega) hc6 none ho .ret [(4, iv 0)] (by intro h; cases h) (fun v h => by cases h) (fun _ => ⟨rfl, rfl⟩)
  refine AD' (con := []) (hints := A9' [(fCh, 1, 2, h0v (byv c)), (fCh, 1, 3, hv (iv (Int.ofNat (c.toNat)))), (fCh, 3, 1, hv (.lit false)), (fCh, 5, 1, hv (.lit true)), (fCh, 5, 4, hv (.lit true)), (fCh, 6, 1, hv (iv (Int.ofNat (c.toNat - 192)))), (fCh, 11, 1, hv (.lit false)), (fCh, 11, 8, hv (.lit false))]) (lc := [(fCh, 14, A2' fCh 14, lChR s i (c.toNat - 192) 2 128)]) [] rfl (fun F _ => noC) (fun F hF => BV' (P5' hl F hF)) fun F => ?_
  refine Yj (X6' s i c F) ⟨⟨?_, (AJ' (vs' := [iv (Int.ofNat (finO none 128 2))]) (H' := []) [] rfl rfl (Yb) trivial).fits rfl⟩⟩
  simp only [Cnd.holds, Nat.blt_eq, true_and, and_true]
  and_intros
  all_goals first
   | (with_reducible exact A0' q2)
   | (with_reducible exact A0' q3)
   | (with_reducible exact A0' q4)
   | (with_reducible exact w1)
   | (with_reducible exact A0' g1)
   | (with_reducible exact cw c)
   | (with_reducible exact hi)
   | exact hby
   | exact A0' rfl | (with_reducible first | exact Ye | exact Yf | exact A4' _ | assumption) | exact Yf | ((repeat (first | exact VW.nil | refine Yg ?_ | refine Yh ?_ | refine Yi ?_)); done)
 | some v =>
  have hl := I3' (i := i) hs 2 128 (c.toNat - 192) (by decide) (by decide) (by omega) hc6 (some v) ho (.exit 1) (zCh v 2 128) (by intro h; cases h) (fun v h => by cases h; exact ⟨rfl, rfl⟩) (fun h => by cases h)
  refine AD' (con := []) (hints := A9' [(fCh, 1, 2, h0v (byv c)), (fCh, 1, 3, hv (iv (Int.ofNat (c.toNat)))), (fCh, 3, 1, hv (.lit false)), (fCh, 5, 1, hv (.lit true)), (fCh, 5, 4, hv (.lit true)), (fCh, 6, 1, hv (iv (Int.ofNat (c.toNat - 192)))), (fCh, 11, 1, hv (.lit false)), (fCh, 11, 8, hv (.lit false))]) (lc := [(fCh, 14, A2' fCh 14, lChE s i (c.toNat - 192) 2 128 v)]) [] rfl (fun F _ => noC) (fun F hF => BV' (P6' hl F hF)) fun F => ?_
  refine cast (congrArg (VAll _) (X7' s i v c F).symm) ?_
  repeat' refine VAll.ite (fun hq => ?_) (fun hq => ?_)
  all_goals
   refine ⟨⟨?_, (AJ' (vs' := [iv (Int.ofNat (finO (some v) 128 2))]) (H' := []) [] rfl rfl (CI' (by simp only [finO, finN, Option.map_some, Option.getD_some, *, if_true, Bool.false_eq_true, if_false])) trivial).fits rfl⟩⟩
   simp only [Cnd.holds, Nat.blt_eq, true_and, and_true]
   and_intros
   all_goals first
    | (with_reducible exact A0' q2)
    | (with_reducible exact A0' q3)
    | (with_reducible exact A0' q4)
    | (with_reducible exact w1)
    | (with_reducible exact A0' g1)
    | (with_reducible exact cw c)
    | (with_reducible exact hi)
    | exact hby
    | exact A0' rfl | (with_reducible first | exact Ye | exact Yf | exact A4' _ | assumption) | exact Yf | ((repeat (first | exact VW.nil | refine Yg ?_ | refine Yh ?_ | refine Yi ?_)); done)
theorem tCh3S (hs : Few s.size) (hi : i < s.size) (hc : (bts s).getD i 0 = c) (l1 : 224 ≤ c.toNat) (l2 : c.toNat < 240) (hsh : s.size - i < 3) : Tri Tryz.prog default fCh [sv s, iv (Int.ofNat i)] [] (iv 0) [] := by
 have hby := HJ' hc
 have q2 := ltF (show 128 ≤ c.toNat by omega)
 have q3 := geT (show 192 ≤ c.toNat by omega)
 have q4 := ltF (show 224 ≤ c.toNat by omega)
 have q5 := geT (show 224 ≤ c.toNat by omega)
 have q6 := ltT l2
 have w1 : Wk (AV.v (.int .i64 (IntKind.i64.wrap (Int.ofNat c.toNat - Int.ofNat 224)))) (AV.v (.int .i64 (Int.ofNat (c.toNat - 224)))) := HP' (c.toNat - 224) (by simp only [Z0]; omega) (by have := c.toNat_lt; omega)
 have hws : IntKind.i64.wrap ((s.size : Int) - Int.ofNat i) = Int.ofNat (s.size - i) := by
  rw [show (s.size : Int) - Int.ofNat i = Int.ofNat (s.size - i) by simp only [Z0]; omega]
  unfold Few at hs
  exact IntWalk.i64_in _ (by simp only [Z0]; omega)
 have g1 : decide (Int.ofNat 3 > IntKind.i64.wrap ((s.size : Int) - Int.ofNat i)) = true := by rw [hws]; exact gtT hsh
 refine AD' (con := []) (hints := A9' [(fCh, 1, 2, h0v (byv c)), (fCh, 1, 3, hv (iv (Int.ofNat (c.toNat)))), (fCh, 3, 1, hv (.lit false)), (fCh, 5, 1, hv (.lit true)), (fCh, 5, 4, hv (.lit false)), (fCh, 7, 1, hv (.lit true)), (fCh, 7, 4, hv (.lit true)), (fCh, 8, 1, hv (iv (Int.ofNat (c.toNat - 224)))), (fCh, 11, 1, hv (.lit false)), (fCh, 11, 8, hv (.lit true))]) (lc := []) [] rfl (fun F _ => noC) (fun F _ => noL) fun F => ?_
 refine Yj (X2' s i c F) ⟨⟨?_, (AJ' (vs' := [iv 0]) (H' := []) [] rfl rfl (Yb) trivial).fits rfl⟩⟩
 simp only [Cnd.holds, Nat.blt_eq, true_and, and_true]
 and_intros
 all_goals first
  | (with_reducible exact A0' q2)
  | (with_reducible exact A0' q3)
  | (with_reducible exact A0' q4)
  | (with_reducible exact A0' q5)
  | (with_reducible exact A0' q6)
  | (with_reducible exact cw c)
  | (with_reducible exact hi)
  | exact hby
  | (with_reducible exact w1)
  | (with_reducible exact A0' g1)
  | exact A0' rfl | (with_reducible first | exact Ye | exact Yf | exact A4' _ | assumption) | exact Yf | ((repeat (first | exact VW.nil | refine Yg ?_ | refine Yh ?_ | refine Yi ?_)); done)
theorem tCh3 (hs : Few s.size) (hi : i < s.size) (hc : (bts s).getD i 0 = c) (l1 : 224 ≤ c.toNat) (l2 : c.toNat < 240) (hln : 3 ≤ s.size - i) : Tri Tryz.prog default fCh [sv s, iv (Int.ofNat i)] [] (iv (Int.ofNat (finO (chK (bts s) i 2 1 (c.toNat - 224)) 2048 3))) [] := by
 have hby := HJ' hc
 have q2 := ltF (show 128 ≤ c.toNat by omega)
 have q3 := geT (show 192 ≤ c.toNat by omega)
 have q4 := ltF (show 224 ≤ c.toNat by omega)
 have q5 := geT (show 224 ≤ c.toNat by omega)
 have q6 := ltT l2
 have w1 : Wk (AV.v (.int .i64 (IntKind.i64.wrap (Int.ofNat c.toNat - Int.ofNat 224)))) (AV.v (.int .i64 (Int.ofNat (c.toNat - 224)))) := HP' (c.toNat - 224) (by simp only [Z0]; omega) (by have := c.toNat_lt; omega)
 have hws : IntKind.i64.wrap ((s.size : Int) - Int.ofNat i) = Int.ofNat (s.size - i) := by
  rw [show (s.size : Int) - Int.ofNat i = Int.ofNat (s.size - i) by simp only [Z0]; omega]
  unfold Few at hs
  exact IntWalk.i64_in _ (by simp only [Z0]; omega)
 have g1 : decide (Int.ofNat 3 > IntKind.i64.wrap ((s.size : Int) - Int.ofNat i)) = false := by rw [hws]; exact gtF hln
 have hc6 : c.toNat - 224 < 64 := by omega
 cases ho : chK (bts s) i 2 1 (c.toNat - 224) with
 | none =>
  have hl := I3' (i := i) hs 3 2048 (c.toNat - 224) (by decide) (by decide) (by omega) hc6 none ho .ret [(4, iv 0)] (by intro h; cases h) (fun v h => by cases h) (fun _ => ⟨rfl, rfl⟩)
  refine AD' (con := []) (hints := A9' [(fCh, 1, 2, h0v (byv c)), (fCh, 1, 3, hv (iv (Int.ofNat (c.toNat)))), (fCh, 3, 1, hv (.lit false)), (fCh, 5, 1, hv (.lit true)), (fCh, 5, 4, hv (.lit false)), (fCh, 7, 1, hv (.lit true)), (fCh, 7, 4, hv (.lit true)), (fCh, 8, 1, hv (iv (Int.ofNat (c.toNat - 224)))), (fCh, 11, 1, hv (.lit false)), (fCh, 11, 8, hv (.lit false))]) (lc := [(fCh, 14, A2' fCh 14, lChR s i (c.toNat - 224) 3 2048)]) [] rfl (fun F _ => noC) (fun F hF => BV' (P5' hl F hF)) fun F => ?_
  refine Yj (X3' s i c F) ⟨⟨?_, (AJ' (vs' := [iv (Int.ofNat (finO none 2048 3))]) (H' := []) [] rfl rfl (Yb) trivial).fits rfl⟩⟩
  simp only [Cnd.holds, Nat.blt_eq, true_and, and_true]
  and_intros
  all_goals first
   | (with_reducible exact A0' q2)
   | (with_reducible exact A0' q3)
   | (with_reducible exact A0' q4)
   | (with_reducible exact A0' q5)
   | (with_reducible exact A0' q6)
   | (with_reducible exact w1)
   | (with_reducible exact A0' g1)
   | (with_reducible exact cw c)
   | (with_reducible exact hi)
   | exact hby
   | exact A0' rfl | (with_reducible first | exact Ye | exact Yf | exact A4' _ | assumption) | exact Yf | ((repeat (first | exact VW.nil | refine Yg ?_ | refine Yh ?_ | refine Yi ?_)); done)
 | some v =>
  have hl := I3' (i := i) hs 3 2048 (c.toNat - 224) (by decide) (by decide) (by omega) hc6 (some v) ho (.exit 1) (zCh v 3 2048) (by intro h; cases h) (fun v h => by cases h; exact ⟨rfl, rfl⟩) (fun h => by cases h)
  refine AD' (con := []) (hints := A9' [(fCh, 1, 2, h0v (byv c)), (fCh, 1, 3, hv (iv (Int.ofNat (c.toNat)))), (fCh, 3, 1, hv (.lit false)), (fCh, 5, 1, hv (.lit true)), (fCh, 5, 4, hv (.lit false)), (fCh, 7, 1, hv (.lit true)), (fCh, 7, 4, hv (.lit true)), (fCh, 8, 1, hv (iv (Int.ofNat (c.toNat - 224)))), (fCh, 11, 1, hv (.lit false)), (fCh, 11, 8, hv (.lit false))]) (lc := [(fCh, 14, A2' fCh 14, lChE s i (c.toNat - 224) 3 2048 v)]) [] rfl (fun F _ => noC) (fun F hF => BV' (P6' hl F hF)) fun F => ?_
  refine cast (congrArg (VAll _) (X4' s i v c F).symm) ?_
  repeat' refine VAll.ite (fun hq => ?_) (fun hq => ?_)
  all_goals
   refine ⟨⟨?_, (AJ' (vs' := [iv (Int.ofNat (finO (some v) 2048 3))]) (H' := []) [] rfl rfl (CI' (by simp only [finO, finN, Option.map_some, Option.getD_some, *, if_true, Bool.false_eq_true, if_false])) trivial).fits rfl⟩⟩
   simp only [Cnd.holds, Nat.blt_eq, true_and, and_true]
   and_intros
   all_goals first
    | (with_reducible exact A0' q2)
    | (with_reducible exact A0' q3)
    | (with_reducible exact A0' q4)
    | (with_reducible exact A0' q5)
    | (with_reducible exact A0' q6)
    | (with_reducible exact w1)
    | (with_reducible exact A0' g1)
    | (with_reducible exact cw c)
    | (with_reducible exact hi)
    | exact hby
    | exact A0' rfl | (with_reducible first | exact Ye | exact Yf | exact A4' _ | assumption) | exact Yf | ((repeat (first | exact VW.nil | refine Yg ?_ | refine Yh ?_ | refine Yi ?_)); done)
theorem tCh4S (hs : Few s.size) (hi : i < s.size) (hc : (bts s).getD i 0 = c) (l1 : 240 ≤ c.toNat) (l2 : c.toNat < 248) (hsh : s.size - i < 4) : Tri Tryz.prog default fCh [sv s, iv (Int.ofNat i)] [] (iv 0) [] := by
 have hby := HJ' hc
 have q2 := ltF (show 128 ≤ c.toNat by omega)
 have q3 := geT (show 192 ≤ c.toNat by omega)
 have q4 := ltF (show 224 ≤ c.toNat by omega)
 have q5 := geT (show 224 ≤ c.toNat by omega)
 have q6 := ltF (show 240 ≤ c.toNat by omega)
 have q7 := geT l1
 have q8 := ltT l2
 have w1 : Wk (AV.v (.int .i64 (IntKind.i64.wrap (Int.ofNat c.toNat - Int.ofNat 240)))) (AV.v (.int .i64 (Int.ofNat (c.toNat - 240)))) := HP' (c.toNat - 240) (by simp only [Z0]; omega) (by have := c.toNat_lt; omega)
 have hws : IntKind.i64.wrap ((s.size : Int) - Int.ofNat i) = Int.ofNat (s.size - i) := by
  rw [show (s.size : Int) - Int.ofNat i = Int.ofNat (s.size - i) by simp only [Z0]; omega]
  unfold Few at hs
  exact IntWalk.i64_in _ (by simp only [Z0]; omega)
 have g1 : decide (Int.ofNat 4 > IntKind.i64.wrap ((s.size : Int) - Int.ofNat i)) = true := by rw [hws]; exact gtT hsh
 refine AD' (con := []) (hints := A9' [(fCh, 1, 2, h0v (byv c)), (fCh, 1, 3, hv (iv (Int.ofNat (c.toNat)))), (fCh, 3, 1, hv (.lit false)), (fCh, 5, 1, hv (.lit true)), (fCh, 5, 4, hv (.lit false)), (fCh, 7, 1, hv (.lit true)), (fCh, 7, 4, hv (.lit false)), (fCh, 9, 1, hv (.lit true)), (fCh, 9, 4, hv (.lit true)), (fCh, 10, 1, hv (iv (Int.ofNat (c.toNat - 240)))), (fCh, 11, 1, hv (.lit false)), (fCh, 11, 8, hv (.lit true))]) (lc := []) [] rfl (fun F _ => noC) (fun F _ => noL) fun F => ?_
 refine Yj (WZ' s i c F) ⟨⟨?_, (AJ' (vs' := [iv 0]) (H' := []) [] rfl rfl (Yb) trivial).fits rfl⟩⟩
 simp only [Cnd.holds, Nat.blt_eq, true_and, and_true]
 and_intros
 all_goals first
  | (with_reducible exact A0' q2)
  | (with_reducible exact A0' q3)
  | (with_reducible exact A0' q4)
  | (with_reducible exact A0' q5)
  | (with_reducible exact A0' q6)
  | (with_reducible exact A0' q7)
  | (with_reducible exact A0' q8)
  | (with_reducible exact cw c)
  | (with_reducible exact hi)
  | exact hby
  | (with_reducible exact w1)
  | (with_reducible exact A0' g1)
  | exact A0' rfl | (with_reducible first | exact Ye | exact Yf | exact A4' _ | assumption) | exact Yf | ((repeat (first | exact VW.nil | refine Yg ?_ | refine Yh ?_ | refine Yi ?_)); done)
theorem tCh4 (hs : Few s.size) (hi : i < s.size) (hc : (bts s).getD i 0 = c) (l1 : 240 ≤ c.toNat) (l2 : c.toNat < 248) (hln : 4 ≤ s.size - i) : Tri Tryz.prog default fCh [sv s, iv (Int.ofNat i)] [] (iv (Int.ofNat (finO (chK (bts s) i 3 1 (c.toNat - 240)) 65536 4))) [] := by
 have hby := HJ' hc
 have q2 := ltF (show 128 ≤ c.toNat by omega)
 have q3 := geT (show 192 ≤ c.toNat by omega)
 have q4 := ltF (show 224 ≤ c.toNat by omega)
 have q5 := geT (show 224 ≤ c.toNat by omega)
 have q6 := ltF (show 240 ≤ c.toNat by omega)
 have q7 := geT l1
 have q8 := ltT l2
 have w1 : Wk (AV.v (.int .i64 (IntKind.i64.wrap (Int.ofNat c.toNat - Int.ofNat 240)))) (AV.v (.int .i64 (Int.ofNat (c.toNat - 240)))) := HP' (c.toNat - 240) (by simp only [Z0]; omega) (by have := c.toNat_lt; omega)
 have hws : IntKind.i64.wrap ((s.size : Int) - Int.ofNat i) = Int.ofNat (s.size - i) := by
  rw [show (s.size : Int) - Int.ofNat i = Int.ofNat (s.size - i) by simp only [Z0]; omega]
  unfold Few at hs
  exact IntWalk.i64_in _ (by simp only [Z0]; omega)
 have g1 : decide (Int.ofNat 4 > IntKind.i64.wrap ((s.size : Int) - Int.ofNat i)) = false := by rw [hws]; exact gtF hln
 have hc6 : c.toNat - 240 < 64 := by omega
 cases ho : chK (bts s) i 3 1 (c.toNat - 240) with
 | none =>
  have hl := I3' (i := i) hs 4 65536 (c.toNat - 240) (by decide) (by decide) (by omega) hc6 none ho .ret [(4, iv 0)] (by intro h; cases h) (fun v h => by cases h) (fun _ => ⟨rfl, rfl⟩)
  refine AD' (con := []) (hints := A9' [(fCh, 1, 2, h0v (byv c)), (fCh, 1, 3, hv (iv (Int.ofNat (c.toNat)))), (fCh, 3, 1, hv (.lit false)), (fCh, 5, 1, hv (.lit true)), (fCh, 5, 4, hv (.lit false)), (fCh, 7, 1, hv (.lit true)), (fCh, 7, 4, hv (.lit false)), (fCh, 9, 1, hv (.lit true)), (fCh, 9, 4, hv (.lit true)), (fCh, 10, 1, hv (iv (Int.ofNat (c.toNat - 240)))), (fCh, 11, 1, hv (.lit false)), (fCh, 11, 8, hv (.lit false))]) (lc := [(fCh, 14, A2' fCh 14, lChR s i (c.toNat - 240) 4 65536)]) [] rfl (fun F _ => noC) (fun F hF => BV' (P5' hl F hF)) fun F => ?_
  refine Yj (X0' s i c F) ⟨⟨?_, (AJ' (vs' := [iv (Int.ofNat (finO none 65536 4))]) (H' := []) [] rfl rfl (Yb) trivial).fits rfl⟩⟩
  simp only [Cnd.holds, Nat.blt_eq, true_and, and_true]
  and_intros
  all_goals first
   | (with_reducible exact A0' q2)
   | (with_reducible exact A0' q3)
   | (with_reducible exact A0' q4)
   | (with_reducible exact A0' q5)
   | (with_reducible exact A0' q6)
   | (with_reducible exact A0' q7)
   | (with_reducible exact A0' q8)
   | (with_reducible exact w1)
   | (with_reducible exact A0' g1)
   | (with_reducible exact cw c)
   | (with_reducible exact hi)
   | exact hby
   | exact A0' rfl | (with_reducible first | exact Ye | exact Yf | exact A4' _ | assumption) | exact Yf | ((repeat (first | exact VW.nil | refine Yg ?_ | refine Yh ?_ | refine Yi ?_)); done)
 | some v =>
  have hl := I3' (i := i) hs 4 65536 (c.toNat - 240) (by decide) (by decide) (by omega) hc6 (some v) ho (.exit 1) (zCh v 4 65536) (by intro h; cases h) (fun v h => by cases h; exact ⟨rfl, rfl⟩) (fun h => by cases h)
  refine AD' (con := []) (hints := A9' [(fCh, 1, 2, h0v (byv c)), (fCh, 1, 3, hv (iv (Int.ofNat (c.toNat)))), (fCh, 3, 1, hv (.lit false)), (fCh, 5, 1, hv (.lit true)), (fCh, 5, 4, hv (.lit false)), (fCh, 7, 1, hv (.lit true)), (fCh, 7, 4, hv (.lit false)), (fCh, 9, 1, hv (.lit true)), (fCh, 9, 4, hv (.lit true)), (fCh, 10, 1, hv (iv (Int.ofNat (c.toNat - 240)))), (fCh, 11, 1, hv (.lit false)), (fCh, 11, 8, hv (.lit false))]) (lc := [(fCh, 14, A2' fCh 14, lChE s i (c.toNat - 240) 4 65536 v)]) [] rfl (fun F _ => noC) (fun F hF => BV' (P6' hl F hF)) fun F => ?_
  refine cast (congrArg (VAll _) (X1' s i v c F).symm) ?_
  repeat' refine VAll.ite (fun hq => ?_) (fun hq => ?_)
  all_goals
   refine ⟨⟨?_, (AJ' (vs' := [iv (Int.ofNat (finO (some v) 65536 4))]) (H' := []) [] rfl rfl (CI' (by simp only [finO, finN, Option.map_some, Option.getD_some, *, if_true, Bool.false_eq_true, if_false])) trivial).fits rfl⟩⟩
   simp only [Cnd.holds, Nat.blt_eq, true_and, and_true]
   and_intros
   all_goals first
    | (with_reducible exact A0' q2)
    | (with_reducible exact A0' q3)
    | (with_reducible exact A0' q4)
    | (with_reducible exact A0' q5)
    | (with_reducible exact A0' q6)
    | (with_reducible exact A0' q7)
    | (with_reducible exact A0' q8)
    | (with_reducible exact w1)
    | (with_reducible exact A0' g1)
    | (with_reducible exact cw c)
    | (with_reducible exact hi)
    | exact hby
    | exact A0' rfl | (with_reducible first | exact Ye | exact Yf | exact A4' _ | assumption) | exact Yf | ((repeat (first | exact VW.nil | refine Yg ?_ | refine Yh ?_ | refine Yi ?_)); done)
theorem YA' (s : ByteArray) (i : Nat) (hs : Few s.size) (hi : i < s.size) : Tri Tryz.prog default fCh [sv s, iv (Int.ofNat i)] [] (iv (Int.ofNat (KI' (bts s) i))) [] := by
 obtain ⟨c, hc⟩ : ∃ c, (bts s).getD i 0 = c := ⟨_, rfl⟩
 have hl : (bts s).length = s.size := rfl
 unfold KI'
 rw [hc]
 split
 ·exact tChA hs hi hc (by assumption)
 split
 ·exact tChL hs hi hc (by omega) (by assumption)
 split
 ·unfold chF
  rw [hl]
  split
  ·exact tCh2S hs hi hc (by omega) (by assumption) (by assumption)
  ·exact tCh2 hs hi hc (by omega) (by assumption) (by omega)
 split
 ·unfold chF
  rw [hl]
  split
  ·exact tCh3S hs hi hc (by omega) (by assumption) (by assumption)
  ·exact tCh3 hs hi hc (by omega) (by assumption) (by omega)
 split
 ·unfold chF
  rw [hl]
  split
  ·exact tCh4S hs hi hc (by omega) (by assumption) (by assumption)
  ·exact tCh4 hs hi hc (by omega) (by assumption) (by omega)
 ·exact tChH hs hi hc (by omega)
def finP (v m n : Nat) : Nat := if v < m then 0 else if 1114111 < v then 0 else if 55296 ≤ v then (if v ≤ 57343 then 0 else n) else n
theorem finN_P (v m n : Nat) : finN v m n = finP v m n := by
 unfold finN finP
 have h1 : (decide (Int.ofNat v < Int.ofNat m) = true) = (v < m) := by rw [decide_eq_true_eq]; exact propext ⟨fun h => by simp only [Z0] at h; omega, fun h => by simp only [Z0]; omega⟩
 have h2 : (decide (Int.ofNat v > Int.ofNat 1114111) = true) = (1114111 < v) := by rw [decide_eq_true_eq]; exact propext ⟨fun h => by simp only [Z0] at h; omega, fun h => by simp only [Z0]; omega⟩
 have h3 : (decide (Int.ofNat v ≥ Int.ofNat 55296) = true) = (55296 ≤ v) := by rw [decide_eq_true_eq]; exact propext ⟨fun h => by simp only [Z0] at h; omega, fun h => by simp only [Z0]; omega⟩
 have h4 : (decide (Int.ofNat v ≤ Int.ofNat 57343) = true) = (v ≤ 57343) := by rw [decide_eq_true_eq]; exact propext ⟨fun h => by simp only [Z0] at h; omega, fun h => by simp only [Z0]; omega⟩
 simp only [h1, h2, h3, h4]
theorem dM' (p : Prop) [Decidable p] (o : Option Nat) (m n : Nat) : finO (if p then none else o) m n = if p then 0 else finO o m n := by
 by_cases h : p
 ·rw [if_pos h, if_pos h]; rfl
 ·rw [if_neg h, if_neg h]
theorem UH' (v m n : Nat) : finO (some v) m n = finP v m n := finN_P v m n
def chP (n b0 b1 b2 b3 : Nat) : Nat := if b0 < 128 then 1 else if b0 < 192 then 0
 else if b0 < 224 then (if n < 2 then 0 else if b1 < 128 then 0 else if 191 < b1 then 0 else finP ((b0 - 192) * 64 + b1 - 128) 128 2)
 else if b0 < 240 then (if n < 3 then 0 else if b1 < 128 then 0 else if 191 < b1 then 0 else if b2 < 128 then 0 else if 191 < b2 then 0 else finP (((b0 - 224) * 64 + b1 - 128) * 64 + b2 - 128) 2048 3)
 else if b0 < 248 then (if n < 4 then 0 else if b1 < 128 then 0 else if 191 < b1 then 0 else if b2 < 128 then 0 else if 191 < b2 then 0 else if b3 < 128 then 0 else if 191 < b3 then 0 else finP ((((b0 - 240) * 64 + b1 - 128) * 64 + b2 - 128) * 64 + b3 - 128) 65536 4)
 else 0
theorem dV' (l : List UInt8) (i : Nat) : KI' l i = chP (l.length - i) (l.getD i 0).toNat (l.getD (i + 1) 0).toNat (l.getD (i + 2) 0).toNat (l.getD (i + 3) 0).toNat := by
 unfold KI' chP chF
 simp only [show 2 - 1 = 1 from rfl, show 3 - 1 = 2 from rfl, show 4 - 1 = 3 from rfl, chK, dM', UH']
theorem dL' (n b0 b1 b2 b3 : Nat) (h0 : b0 < 256) (h1 : b1 < 256) (h2 : b2 < 256) (h3 : b3 < 256) : chP n b0 b1 b2 b3 = if (Lib.decodeN n b0 b1 b2 b3).1 = 65533 ∧ (Lib.decodeN n b0 b1 b2 b3).2 = 1 then 0 else (Lib.decodeN n b0 b1 b2 b3).2 := by
 unfold chP
 by_cases c1 : b0 < 128
 ·have e : Lib.decodeN n b0 b1 b2 b3 = (b0, 1) := by unfold Lib.decodeN; rw [if_pos c1]
  rw [if_pos c1, e, if_neg (by simp only; omega)]
 rw [if_neg c1]
 have err : ∀ {z : Nat × Nat}, z = (65533, 1) → (if z.1 = 65533 ∧ z.2 = 1 then 0 else z.2) = 0 := fun h => by rw [h]; rfl
 have ok : ∀ {z : Nat × Nat} {v k : Nat}, z = (v, k) → k ≠ 1 → (if z.1 = 65533 ∧ z.2 = 1 then 0 else z.2) = k := fun h hk => by rw [h, if_neg (fun h => hk h.2)]
 by_cases c2 : b0 < 192
 ·rw [if_pos c2]
  refine (err ?_).symm
  unfold Lib.decodeN
  rw [if_neg c1, if_neg (by omega), if_neg (by omega), if_neg (by omega)]
 rw [if_neg c2]
 by_cases c3 : b0 < 224
 ·rw [if_pos c3]
  by_cases hx : n < 2 ∨ b1 < 128 ∨ 191 < b1
  ·have e : Lib.decodeN n b0 b1 b2 b3 = (65533, 1) := by
    unfold Lib.decodeN
    rw [if_neg c1, if_neg (by omega), if_neg (by omega), if_neg (by omega)]
   rw [err e]
   split
   ·rfl
   split
   ·rfl
   split
   ·rfl
   ·omega
  ·rw [if_neg (by omega), if_neg (by omega), if_neg (by omega)]
   unfold finP
   have hv : (b0 - 192) * 64 + b1 - 128 = b0 % 32 * 64 + b1 % 64 := by omega
   rw [hv]
   by_cases hq : b0 % 32 * 64 + b1 % 64 ≥ 128
   ·have e : Lib.decodeN n b0 b1 b2 b3 = (b0 % 32 * 64 + b1 % 64, 2) := by
     unfold Lib.decodeN
     rw [if_neg c1, if_pos (by omega), if_pos hq]
    rw [ok e (by decide), if_neg (by omega), if_neg (by omega), if_neg (by omega)]
   ·have e : Lib.decodeN n b0 b1 b2 b3 = (65533, 1) := by
     unfold Lib.decodeN
     rw [if_neg c1, if_pos (by omega), if_neg hq]
    rw [err e, if_pos (by omega)]
 rw [if_neg c3]
 by_cases c4 : b0 < 240
 ·rw [if_pos c4]
  by_cases hx : n < 3 ∨ b1 < 128 ∨ 191 < b1 ∨ b2 < 128 ∨ 191 < b2
  ·have e : Lib.decodeN n b0 b1 b2 b3 = (65533, 1) := by
    unfold Lib.decodeN
    rw [if_neg c1, if_neg (by omega), if_neg (by omega), if_neg (by omega)]
   rw [err e]
   split
   ·rfl
   split
   ·rfl
   split
   ·rfl
   split
   ·rfl
   split
   ·rfl
   ·omega
  ·rw [if_neg (by omega), if_neg (by omega), if_neg (by omega), if_neg (by omega), if_neg (by omega)]
   unfold finP
   have hv : ((b0 - 224) * 64 + b1 - 128) * 64 + b2 - 128 = b0 % 16 * 4096 + b1 % 64 * 64 + b2 % 64 := by omega
   rw [hv]
   by_cases hq : b0 % 16 * 4096 + b1 % 64 * 64 + b2 % 64 ≥ 2048 ∧ (b0 % 16 * 4096 + b1 % 64 * 64 + b2 % 64 < 55296 ∨ (57344 ≤ b0 % 16 * 4096 + b1 % 64 * 64 + b2 % 64 ∧ b0 % 16 * 4096 + b1 % 64 * 64 + b2 % 64 ≤ 1114111))
   ·have e : Lib.decodeN n b0 b1 b2 b3 = (b0 % 16 * 4096 + b1 % 64 * 64 + b2 % 64, 3) := by
     unfold Lib.decodeN
     rw [if_neg c1, if_neg (by omega), if_pos (by omega), if_pos hq]
    rw [ok e (by decide), if_neg (by omega), if_neg (by omega)]
    split
    ·rw [if_neg (by omega)]
    ·rfl
   ·have e : Lib.decodeN n b0 b1 b2 b3 = (65533, 1) := by
     unfold Lib.decodeN
     rw [if_neg c1, if_neg (by omega), if_pos (by omega), if_neg hq]
    rw [err e]
    split
    ·rfl
    split
    ·rfl
    split
    ·split
     ·rfl
     ·omega
    ·omega
 rw [if_neg c4]
 by_cases c5 : b0 < 248
 ·rw [if_pos c5]
  by_cases hx : n < 4 ∨ b1 < 128 ∨ 191 < b1 ∨ b2 < 128 ∨ 191 < b2 ∨ b3 < 128 ∨ 191 < b3
  ·have e : Lib.decodeN n b0 b1 b2 b3 = (65533, 1) := by
    unfold Lib.decodeN
    rw [if_neg c1, if_neg (by omega), if_neg (by omega), if_neg (by omega)]
   rw [err e]
   split
   ·rfl
   split
   ·rfl
   split
   ·rfl
   split
   ·rfl
   split
   ·rfl
   split
   ·rfl
   split
   ·rfl
   ·omega
  ·rw [if_neg (by omega), if_neg (by omega), if_neg (by omega), if_neg (by omega), if_neg (by omega), if_neg (by omega), if_neg (by omega)]
   unfold finP
   have hv : (((b0 - 240) * 64 + b1 - 128) * 64 + b2 - 128) * 64 + b3 - 128 = b0 % 8 * 262144 + b1 % 64 * 4096 + b2 % 64 * 64 + b3 % 64 := by omega
   rw [hv]
   by_cases hq : b0 % 8 * 262144 + b1 % 64 * 4096 + b2 % 64 * 64 + b3 % 64 ≥ 65536 ∧ (b0 % 8 * 262144 + b1 % 64 * 4096 + b2 % 64 * 64 + b3 % 64 < 55296 ∨ (57344 ≤ b0 % 8 * 262144 + b1 % 64 * 4096 + b2 % 64 * 64 + b3 % 64 ∧ b0 % 8 * 262144 + b1 % 64 * 4096 + b2 % 64 * 64 + b3 % 64 ≤ 1114111))
   ·have e : Lib.decodeN n b0 b1 b2 b3 = (b0 % 8 * 262144 + b1 % 64 * 4096 + b2 % 64 * 64 + b3 % 64, 4) := by
     unfold Lib.decodeN
     rw [if_neg c1, if_neg (by omega), if_neg (by omega), if_pos (by omega), if_pos hq]
    rw [ok e (by decide), if_neg (by omega), if_neg (by omega)]
    split
    ·rw [if_neg (by omega)]
    ·rfl
   ·have e : Lib.decodeN n b0 b1 b2 b3 = (65533, 1) := by
     unfold Lib.decodeN
     rw [if_neg c1, if_neg (by omega), if_neg (by omega), if_pos (by omega), if_neg hq]
    rw [err e]
    split
    ·rfl
    split
    ·rfl
    split
    ·split
     ·rfl
     ·omega
    ·omega
 ·rw [if_neg c5]
  refine (err ?_).symm
  unfold Lib.decodeN
  rw [if_neg c1, if_neg (by omega), if_neg (by omega), if_neg (by omega)]
theorem R0' (l : List UInt8) (k : Nat) : (ByteArray.mk l.toArray).get! k = l.getD k 0 := by
 show l.toArray[k]! = _
 rw [List.getElem!_toArray, List.getD_eq_getElem?_getD]
 simp only [List.getElem!_eq_getElem?_getD]
 rfl
theorem UU' (l : List UInt8) (i : Nat) : KI' l i = if errQ (l.drop i) = true then 0 else dN (l.drop i) := by
 rw [dV', dL' _ _ _ _ _ (UInt8.toNat_lt _) (UInt8.toNat_lt _) (UInt8.toNat_lt _) (UInt8.toNat_lt _)]
 have hd : Lib.decodeL (l.drop i) = Lib.decodeN (l.length - i) (l.getD i 0).toNat (l.getD (i + 1) 0).toNat (l.getD (i + 2) 0).toNat (l.getD (i + 3) 0).toNat := by
  unfold Lib.decodeL
  rw [Lib.decode_at, R0', R0', R0', R0']
  have hs : (ByteArray.mk (l.drop i).toArray).size = l.length - i := by simp [ByteArray.size]
  have g : ∀ k, (l.drop i).getD k 0 = l.getD (i + k) 0 := fun k => by rw [List.getD_eq_getElem?_getD, List.getD_eq_getElem?_getD, List.getElem?_drop]
  rw [hs, g, g, g, g]
  rfl
 rw [← hd]
 unfold errQ dR dN
 have hq : ((Int.ofNat (Lib.decodeL (l.drop i)).1 == Int.ofNat 65533 && (Int.ofNat (Lib.decodeL (l.drop i)).2 == Int.ofNat 1)) = true) = ((Lib.decodeL (l.drop i)).1 = 65533 ∧ (Lib.decodeL (l.drop i)).2 = 1) := by
  rw [Bool.and_eq_true, beq_iff_eq, beq_iff_eq]
  exact propext ⟨fun h => ⟨Int.ofNat.inj h.1, Int.ofNat.inj h.2⟩, fun h => ⟨congrArg Int.ofNat h.1, congrArg Int.ofNat h.2⟩⟩
 simp only [hq]
abbrev fTwo : Nat := 65
def cfgT : Cfg := { strs := [], ints := [], same := [], clone := [], laid := [] }
theorem dW' : CfgOk Tryz.prog cfgT where
 strs := fun x hx => by cases hx
 ints := fun x hx => by cases hx
 same := fun x hx => by cases hx
 clone := fun x hx => by cases hx
theorem ZK' (w : World) : ((List.range 256).all fun c => match ER' ((CW' Tryz.prog (envK Tryz.prog cfgT w) 1000 fTwo [.v (.int .u8 (Int.ofNat c))]).run true .nil 0 []) with
  | some (.string s) => decide (bts s = hx (UInt8.ofNat c))
  | _ => false) = true := by kernel_rfl
theorem ZJ' (c : UInt8) (w : World) : ER' ((CW' Tryz.prog (envK Tryz.prog cfgT w) 1000 fTwo (vmap [.int .u8 (c.toNat : Int)])).run true .nil 0 []) = some (.string (tB (hx c))) := by
 have h := List.all_eq_true.1 (ZK' w) c.toNat (List.mem_range.2 c.toNat_lt)
 simp only [UInt8.ofNat_toNat] at h
 show ER' ((CW' Tryz.prog (envK Tryz.prog cfgT w) 1000 fTwo [.v (.int .u8 (Int.ofNat c.toNat))]).run true .nil 0 []) = _
 split at h
 ·rename_i n he
  have h2 := of_decide_eq_true h
  rw [he, ← h2]
  congr 2
 ·cases h
theorem SJ' (c : UInt8) (w : World) : Calls Tryz.prog fTwo #[.int .u8 (c.toNat : Int)] w fun e w' => e = .returned (.string (tB (hx c))) ∧ Below w.heap.size w w' :=
 O2' (args := [.int .u8 (c.toNat : Int)]) dW' (by kernel_rfl) (fuel := 1000) (fun w => ZJ' c w) (fun x hx => by cases hx)
def gB8 : List AV → Option Int
 | [.v (.int .u8 z)] => some z
 | _ => none
theorem XI' (A : List AV) (p : Int) (h : gB8 A = some p) : A = vmap [.int .u8 p] := by
 unfold gB8 at h
 split at h
 ·cases h; rfl
 ·cases h
noncomputable def cTwo : List AV → Option (AP AV) := vC gB8 (fun z => 0 ≤ z ∧ z < 256) (fun z => sv (tB (hx (UInt8.ofNat z.toNat))))
theorem dY' {W : World} (F : HP) (hF : AK' W F) : C1OK Tryz.prog F fTwo cTwo :=
 VU' hF (fun c => [.int .u8 c]) (fun c => .string (tB (hx (UInt8.ofNat c.toNat)))) XI' (fun p N => vr_v N _) fun c hc w hw => by
  obtain ⟨n, rfl⟩ : ∃ n : Nat, c = (n : Int) := ⟨c.toNat, by omega⟩
  have h1 : ((UInt8.ofNat n).toNat : Int) = (n : Int) := by
   have : n < 256 := by omega
   simp [UInt8.toNat_ofNat', Nat.mod_eq_of_lt this]
  have := SJ' (UInt8.ofNat n) w
  rw [h1] at this
  exact this
noncomputable section
abbrev fRQ : Nat := 40
def cCh : List AV → Option (AP AV) := mkC gSN (fun p => p.2 < p.1.size ∧ Few p.1.size) (fun _ k => k) (fun p => [sv p.1, iv (Int.ofNat p.2)]) (fun _ => []) (fun p => .leaf .ret [iv (Int.ofNat (KI' (bts p.1) p.2))] [])
def conR : HN' := [(fCh, cCh), (fTwo, cTwo)]
def aR (s : ByteArray) (p i : Nat) : List (Nat × AV) := [(0, sv s), (3, sB 1000 p), (4, iv (Int.ofNat i))]
def oR (P : List UInt8) : LH := [(1000, rB P)]
def hR (i n j k : Nat) (c : UInt8) (z q b l : Bool) (h m : ByteArray) (P : List UInt8) : B8' := A9' [(fRQ, 3, 3, hv (.lit true)), (fRQ, 4, 2, hv (iv (Int.ofNat n))), (fRQ, 6, 1, hv (.lit z)), (fRQ, 7, 2, h0v (byv c)), (fRQ, 7, 3, hv (sv h)), (fRQ, 7, 4, h0v (sv m)), (fRQ, 9, 2, h0v (byv c)), (fRQ, 9, 3, hv (.lit q)), (fRQ, 9, 7, h0v (byv c)), (fRQ, 9, 8, hv (.lit b)), (fRQ, 10, 3, hv (iv (Int.ofNat (i + 1)))), (fRQ, 10, 4, h0v (sv h)), (fRQ, 10, 5, h0v (sv m)),
 (fRQ, 11, 2, h0v (byv c)), (fRQ, 11, 3, hv (.lit l)), (fRQ, 12, 2, h0v (byv c)), (fRQ, 12, 3, hv (sv h)), (fRQ, 12, 4, h0v (sv m)), (fRQ, 13, 4, hv (iv (Int.ofNat j))), (fRQ, 13, 5, h0v (sv m)), (fRQ, 15, 2, hv (iv (Int.ofNat j))), (fRQ, 14, 3, hvo (sB 1101 k) 1101 (rB P))]
noncomputable section
abbrev k84' (q0 : Nat) (q1 : ByteArray) (q2 : Nat) : Cnd := ((p' (q0 < q1.size ∧ Few q1.size)).a ((p' (VW [s' q1,i' q0] [s' q1,i' q0])).a (f' (Wk (i' (KI' (bts q1) q0)) (i' q2)))))
abbrev k85' (q0 : UInt8) (q1 : ByteArray) : Cnd := ((p' (Int.ofNat 0 ≤ ↑q0.toNat ∧ ↑q0.toNat < Int.ofNat 256)).a (f' (Wk (s' (tB [hd ((UInt8.ofNat ((q0.toNat : Nat) : Int).toNat).toNat / 16),hd ((UInt8.ofNat ((q0.toNat : Nat) : Int).toNat).toNat % 16)])) (s' q1))))
abbrev k86' (q0 : ByteArray) (q1 q2 : List UInt8) (q3 q4 : Nat) : Cnd := ((p' (q0.size.ble q0.size = true)).a ((p' ((List.take (q0.size * 1) (List.drop 0 (vmap (List.map (fun b => Value.int IntKind.u8 ↑b.toNat) q0.data.toList)))).length.beq (q0.size * 1) = true)).a ((p' ((List.take (q0.size * 1) (List.drop 0 (vmap (List.map (fun b => Value.int IntKind.u8 ↑b.toNat) q0.data.toList)))).all AV.one = true)).a ((p' (Nat.blt 0 q0.size = true)).a ((p' ((0 + q1.length * 1).ble (rowV encB q1).length = true)).a ((p' (((q1.length + q0.size) * 1).ble 140737488355328 = true)).a ((p' ((q1.length + q0.size).ble 9223372036854775807 = true)).a ((p' ((List.take (q1.length * 1) (List.drop 0 (rowV encB q1))).length.beq (q1.length * 1) = true)).a ((p' (OW (AO.cells (List.take (q1.length * 1) (List.drop 0 (rowV encB q1)) ++ List.take (q0.size * 1) (List.drop 0 (vmap (List.map (fun b => Value.int IntKind.u8 ↑b.toNat) q0.data.toList)))) 10) (AO.cells (rowV encB q2) 10))).a (f' (Wk (AV.slice q3 0 (q1.length + q0.size) 1 (Cp.lo (q1.length + q0.size))) (AV.slice q3 0 q4 1 (Cp.lo q4)))))))))))))
end
theorem aX' (s : ByteArray) (i n j k : Nat) (c : UInt8) (h m : ByteArray) (P P' : List UInt8) (F : HP) : AR' conR (hR i n j k c true false false false h m P') [] default fRQ (A2' fRQ 3) (tms 0 64 (aR s P.length i)) (oR P) [1000, 1100, 1101] [0, 3, 4] F = VT.leaf (AX.normal,[s' s,AV.slice 1101 0 k 1 (Cp.lo k),i' j],64) [none,some (AO.cells (vmap (List.map (fun b => Value.int IntKind.u8 ↑b.toNat) m.data.toList)) 11),some (AO.cells (rowV encB P') 10)] 1102 ((k3' i s).a ((k84' i s n).a ((f' (Wk (b' (Int.ofNat n == Int.ofNat 0)) j')).a ((k4' i s c).a ((k85' c h).a (((p' (4 + h.size ≤ 9223372036854775807)).a (f' (Wk (s' (ByteArray.mk (Array.mk [92,117,100,99]) ++ h)) (s' m)))).a ((k86' m P P' 1101 k).a ((f' (Wk (z' (IntKind.i64.wrap (Int.ofNat i + Int.ofNat 1))) (i' j))).a t')))))))) := by kernel_rfl
noncomputable section
abbrev k87' (q0 : Nat) : Cnd := (f' (Wk (b' (Int.ofNat q0 == Int.ofNat 0)) g'))
abbrev k88' (q0 : Nat) (q1 q2 : ByteArray) : Cnd := ((p' (q0 ≤ q0 + 1)).a ((p' (q0 + 1 ≤ q1.size)).a (f' (Wk (s' (q1.extract q0 (q0 + 1))) (s' q2)))))
abbrev k89' (q0 q1 : ByteArray) : Cnd := ((p' (1 + q0.size ≤ 9223372036854775807)).a (f' (Wk (s' (ByteArray.mk (Array.mk [92]) ++ q0)) (s' q1))))
abbrev k90' (q0 q1 q2 : Nat) : Cnd := (f' (Wk (z' (IntKind.i64.wrap (Int.ofNat q0 + Int.ofNat q1))) (i' q2)))
end
theorem aW' (s : ByteArray) (i n j k : Nat) (c : UInt8) (h m : ByteArray) (P P' : List UInt8) (F : HP) : AR' conR (hR i n j k c false true false false h m P') [] default fRQ (A2' fRQ 3) (tms 0 64 (aR s P.length i)) (oR P) [1000, 1100, 1101] [0, 3, 4] F = VT.leaf (AX.normal,[s' s,AV.slice 1101 0 k 1 (Cp.lo k),i' j],64) [none,some (AO.cells (vmap (List.map (fun b => Value.int IntKind.u8 ↑b.toNat) m.data.toList)) 11),some (AO.cells (rowV encB P') 10)] 1102 ((k3' i s).a ((k84' i s n).a ((k87' n).a ((k4' i s c).a ((f' (Wk (b' (↑c.toNat == Int.ofNat 34)) j')).a ((k7' i).a ((k88' i s h).a ((k89' h m).a ((k86' m P P' 1101 k).a ((k90' i n j).a t')))))))))) := by kernel_rfl
noncomputable section
abbrev k91' (q0 : UInt8) : Cnd := (f' (Wk (b' (↑q0.toNat == Int.ofNat 34)) g'))
end
theorem b0' (s : ByteArray) (i n j k : Nat) (c : UInt8) (h m : ByteArray) (P P' : List UInt8) (F : HP) : AR' conR (hR i n j k c false false true false h m P') [] default fRQ (A2' fRQ 3) (tms 0 64 (aR s P.length i)) (oR P) [1000, 1100, 1101] [0, 3, 4] F = VT.leaf (AX.normal,[s' s,AV.slice 1101 0 k 1 (Cp.lo k),i' j],64) [none,some (AO.cells (vmap (List.map (fun b => Value.int IntKind.u8 ↑b.toNat) m.data.toList)) 11),some (AO.cells (rowV encB P') 10)] 1102 ((k3' i s).a ((k84' i s n).a ((k87' n).a ((k4' i s c).a ((k91' c).a ((k4' i s c).a ((f' (Wk (b' (↑c.toNat == Int.ofNat 92)) j')).a ((k7' i).a ((k88' i s h).a ((k89' h m).a ((k86' m P P' 1101 k).a ((k90' i n j).a t')))))))))))) := by kernel_rfl
noncomputable section
abbrev k92' (q0 : UInt8) : Cnd := (f' (Wk (b' (↑q0.toNat == Int.ofNat 92)) g'))
end
theorem aZ' (s : ByteArray) (i n j k : Nat) (c : UInt8) (h m : ByteArray) (P P' : List UInt8) (F : HP) : AR' conR (hR i n j k c false false false true h m P') [] default fRQ (A2' fRQ 3) (tms 0 64 (aR s P.length i)) (oR P) [1000, 1100, 1101] [0, 3, 4] F = VT.leaf (AX.normal,[s' s,AV.slice 1101 0 k 1 (Cp.lo k),i' j],64) [none,some (AO.cells (vmap (List.map (fun b => Value.int IntKind.u8 ↑b.toNat) m.data.toList)) 11),some (AO.cells (rowV encB P') 10)] 1102 ((k3' i s).a ((k84' i s n).a ((k87' n).a ((k4' i s c).a ((k91' c).a ((k4' i s c).a ((k92' c).a ((k4' i s c).a ((f' (Wk (b' (decide (↑c.toNat < Int.ofNat 32))) j')).a ((k4' i s c).a ((k85' c h).a (((p' (4 + h.size ≤ 9223372036854775807)).a (f' (Wk (s' (ByteArray.mk (Array.mk [92,117,48,48]) ++ h)) (s' m)))).a ((k86' m P P' 1101 k).a ((k90' i n j).a t')))))))))))))) := by kernel_rfl
theorem aY' (s : ByteArray) (i n j k : Nat) (c : UInt8) (h m : ByteArray) (P P' : List UInt8) (F : HP) : AR' conR (hR i n j k c false false false false h m P') [] default fRQ (A2' fRQ 3) (tms 0 64 (aR s P.length i)) (oR P) [1000, 1100, 1101] [0, 3, 4] F = VT.leaf (AX.normal,[s' s,AV.slice 1101 0 k 1 (Cp.lo k),i' j],64) [none,some (AO.cells (vmap (List.map (fun b => Value.int IntKind.u8 ↑b.toNat) m.data.toList)) 11),some (AO.cells (rowV encB P') 10)] 1102 ((k3' i s).a ((k84' i s n).a ((k87' n).a ((k4' i s c).a ((k91' c).a ((k4' i s c).a ((k92' c).a ((k4' i s c).a ((f' (Wk (b' (decide (↑c.toNat < Int.ofNat 32))) g')).a ((k90' i n j).a (((p' (i ≤ j)).a ((p' (j ≤ s.size)).a (f' (Wk (s' (s.extract i j)) (s' m))))).a ((k86' m P P' 1101 k).a ((k90' i n j).a t'))))))))))))) := by kernel_rfl
theorem aV' (s : ByteArray) (i : Nat) (P : List UInt8) (F : HP) : AR' conR (A9' [(fRQ, 3, 3, hv (.lit false))]) [] default fRQ (A2' fRQ 3) (tms 0 64 (aR s P.length i)) (oR P) [1000, 1100, 1101] [0, 3, 4] F = VT.leaf (AX.exit 0,[s' s,AV.slice 1000 0 P.length 1 (Cp.lo P.length),i' i],64) [some (AO.cells (rowV encB P) 10),none,none] 1100 ((k11' i s).a t') := by kernel_rfl
end
end Go.Proofs.YtdphpillcaajpaaGreatDoor.Js
