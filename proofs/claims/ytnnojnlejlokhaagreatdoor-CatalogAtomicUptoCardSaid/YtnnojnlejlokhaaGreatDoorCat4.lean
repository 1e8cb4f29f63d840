/- Parts of the proof, merged. -/
import Derived.Test.YtnnojnlejlokhaaGreatDoorCat3
import Derived.Test.YtnnojnlejlokhaaGreatDoorCat2
import Derived.Test.YtnnojnlejlokhaaGreatDoorEngCon
noncomputable section
set_option linter.unusedVariables false
set_option linter.unusedSimpArgs false
set_option maxRecDepth 100000
set_option linter.unusedSectionVars false
namespace Go.Proofs.YtnnojnlejlokhaaGreatDoor.Wk
open Go Go.RowKit Eng Kit Tree
noncomputable section
theorem eK' (F : HP) : wRun [] BA' [] default fDo [nilS, iv 1099511627776] [] [1100, 1101, 1102, 1103] F = VT.ite false (VT.bad "indexAddr") (VT.leaf (AV.tuple [AV.ptr 1101 0,i' 0]) [some (AO.map [] 0),some (AO.cells [AV.map 1100,e',i' 1099511627776,i' 0] 160),none,none] 1102 k1') := χ
def conOz (n : Nat) (w : Bs) : GP' := [(fGn, cGn), (fCt, cK [sv nmL, sv nmP] (bv false)), (fSo, cSo), (fWp, cWz n w), (fIt, cK [iv 1] (sv nmO)), (fCl, cClB n w)]
def hOz (n : Nat) : BI' := A6' [hf' fWo 1 2, hf' fWo 1 6, hf' fWo 1 11, hf' fWo 6 0, hf' fWo 16 0, hf' fWo 22 4, hf' fWo 27 1, (fFl, 1, 4, hv (sv nmD)), (fFl, 1, 7, hv (sv nm1)), hf' fPt 2 1, hf' fDa 1 2, hf' fDa 3 8, hf' fDa 3 21, ht' fDa 6 1, (fDa, 11, 6, hv (iv (Int.ofNat n))), ht' fAp 2 1, (fAp, 3, 5, hv (iv (Int.ofNat n)))]
def kOz : List Nat := [0, 1001, 1100, 1101, 1102, 1103, 1104, 1105, 1106, 1107, 1108, 1109, 1110, 1111, 1112, 1113, 1114, 1115, 1116]
abbrev y1' : Δ := ByteArray.mk (Array.mk [46])
abbrev k55' (q0 : Nat) (q1 : Bs) (q2 : World) (q3 : HP) (q4 q5 q6 q7 : Nat) : Cnd := ((ee' (i' 1)).a ((((p' True).a (f' (VW [e'] [e']))).a ((f' (Wk (b' false) g')).a ((fe' true).a (((ee' (s' nmL)).a ((f' (Wk (s' (nmL ++ ByteArray.mk (Array.mk [46]))) (s' nmD))).a (((p' True).a (f' (VW [i' 1] [i' 1]))).a ((f' (Wk (s' (nmD ++ nmO)) (s' nm1))).a t')))).a ((((p' (nm1 = nm1 \/ nm1 = nmL)).a (f' (VW [s' nm1] [s' nm1]))).a ((f' (Wk (b' false) g')).a ((ee' (i' 1099511627776)).a ((ee' (i' 0)).a ((f' (Wk (b' false) g')).a ((ee' (i' 1099511627776)).a ((ee' (i' 0)).a ((wb' (decide (↑q0 > Int.ofNat 1099511627776)) g').a ((fe' true).a ((f' (findKey Tryz.prog (envW [(31,cGn),(50,cK [s' nmL,s' nmP] (b' false)),(38,cSo),(66,cWz q0 q1),(75,cK [i' 1] (s' nmO)),(32,cClB q0 q1)] (hOz q0) [] q2 q3) 9 (s' nm1) [] 0 = AP.ret none)).a ((f' (Wk (b' true) j')).a ((fe' true).a (((p' (findKey Tryz.prog (envW [(31,cGn),(50,cK [s' nmL,s' nmP] (b' false)),(38,cSo),(66,cWz q0 q1),(75,cK [i' 1] (s' nmO)),(32,cClB q0 q1)] (hOz q0) [] q2 q3) 9 (s' nm1) [] 0 = AP.ret none)).a (f' (D6' (s' nm1) []))).a ((fe' true).a ((fe' true).a (((p' True).a ((vw' [AV.slice q4 0 q0 1 (Cp.lo q0)]).a (f' (OW (AO.cells (AV.rens (sgN (fun k => k) [q5] q4) (rowV encB q1)) 10) (AO.cells (AV.rens (fun k => match k with | 0 => sgN ((fun x k => k) ()) (newL [(q5,rB q1)]) (q6 + 1 + 1 + 1) q5 | k => k) (rowV encB q1)) 10))))).a ((tt'.a (tt'.a (tt'.a (tt'.a (ee' true))))).a ((fe' true).a ((fe' true).a (((p' (q0.ble q0 = true)).a ((p' ((List.take (q0 * 1) (List.drop 0 (AV.rens (sgN (fun k => match k with | 0 => sgN ((fun x k => k) ()) (newL [(q5,rB q1)]) (q6 + 1 + 1 + 1) q5 | k => k) [q5] q7) (rowV encB q1)))).length.beq (q0 * 1) = true)).a ((p' ((List.take (q0 * 1) (List.drop 0 (AV.rens (sgN (fun k => match k with | 0 => sgN ((fun x k => k) ()) (newL [(q5,rB q1)]) (q6 + 1 + 1 + 1) q5 | k => k) [q5] q7) (rowV encB q1)))).all AV.one = true)).a ((p' (Nat.blt 0 q0 = true)).a ((p' ((q0 * 1).ble 140737488355328 = true)).a (f' (q0.ble 9223372036854775807 = true))))))).a ((fe' true).a ((ee' (i' 0)).a ((f' (Wk (z' (IntKind.i64.wrap (Int.ofNat 0 + ↑q0))) (i' q0))).a ((fe' true).a t')))))))))))))))))))))))).a t'))))).a ((f' (Wk (b' true) j')).a ((ee' (i' 0)).a ((f' (Wk (z' (IntKind.i64.wrap (Int.ofNat 0 + ↑q0))) (i' q0))).a ((fe' true).a t'))))))
abbrev h56' (z : Cnd) : Cnd := (((fe' true).a t').a ((f' (Wk (b' false) g')).a z))
abbrev k57' : Cnd := ((p' True).a (f' (VW [s' nmL,s' y1'] [s' nmL,s' nmP])))
abbrev k58' : Cnd := ((p' (nmL = nm1 \/ nmL = nmL)).a (f' (VW [s' nmL] [s' nmL])))
theorem bE' (W : World) (n : Nat) (w : Bs) (F : HP) : wRun (conOz n w) (hOz n) [] W fWo [.ptr 0 0, sv nmL] dZL kOz F = VT.ite true (VT.ite false (VT.bad "store one cell each") (VT.leaf (AV.tuple [AV.ptr 1100 0,AV.slice 1111 0 1 1 (Cp.ex 1),i' 0]) [some (AO.cells [AV.map 1001,e',i' 1099511627776,i' n] 160),some (AO.map [(s' nm1,AV.ptr 1104 0,0)] 1),some (AO.cells [AV.ptr 0 0,s' nmL,i' 1,i' n] 216),some (AO.cells [AV.map 1001] 154),some (AO.cells [AV.map 1001] 154),some (AO.cells (AV.rens (sgN (fun k => match k with | 0 => sgN ((fun x k => k) ()) (newL [(1000,rB w)]) (1100 + 1 + 1 + 1) 1000 | k => k) [1000] 1105) (rowV encB w)) 10),some (AO.cells [AV.slice 1108 0 n 1 (Cp.lo n),AV.slice 1110 0 n 1 (Cp.lo n)] 174),some (AO.cells (AV.rens (sgN (fun k => match k with | 0 => sgN ((fun x k => k) ()) (newL [(1000,rB w)]) (1100 + 1 + 1 + 1) 1000 | k => k) [1000] 1105) (rowV encB w)) 10),some (AO.cells [s' nm1,i' 0,AV.slice 1105 0 n 1 (Cp.lo n)] 180),some (AO.cells [s' nm1,i' 0,AV.slice 1105 0 n 1 (Cp.lo n)] 180),some (AO.cells (AV.rens (sgN (fun k => match k with | 0 => 1100 + 1 + 1 + 1 + 1 + 1 + 1 + 1 + 1 | k => k) [1000] 1110) (rowV encB w)) 10),some (AO.cells [s' nm1,i' 0,AV.slice 1105 0 n 1 (Cp.lo n)] 180),some (AO.cells (AV.rens (sgN (fun k => match k with | 0 => 1100 + 1 + 1 + 1 + 1 + 1 + 1 + 1 + 1 | k => k) [1000] 1110) (rowV encB w)) 10),some (AO.cells [e'] 148),none,none,none,none,none] 1112 (k58'.a (k5'.a (k5'.a (k57'.a (k5'.a (h56' (h56' (k50'.a (k5'.a (k7'.a ((k55' n w W F 1103 1000 1100 1105).a (k5'.a (((fe' true).a (((fe' true).a ((fe' true).a ((ee' [s' nm1,i' 0,AV.slice 1105 0 n 1 (Cp.lo n)]).a ((fe' true).a ((fe' true).a ((ee' (s' nm1)).a ((f' (findKey Tryz.prog (envW [(31,cGn),(50,cK [s' nmL,s' nmP] (b' false)),(38,cSo),(66,cWz n w),(75,cK [i' 1] (s' nmO)),(32,cClB n w)] (hOz n) [] W F) 9 (s' nm1) [(s' nm1,AV.ptr 1104 0,0)] 0 = AP.ret (some (0,AV.ptr 1104 0)))).a ((fe' true).a (((Cnd.p True).a ((vw' [AV.slice 1108 0 n 1 (Cp.lo n)]).a (f' (OW (AO.cells (List.take (n * 1) (List.drop 0 (AV.rens (sgN (fun k => match k with | 0 => sgN ((fun x k => k) ()) (newL [(1000,rB w)]) (1100 + 1 + 1 + 1) 1000 | k => k) [1000] 1105) (rowV encB w)))) 10) (AO.cells (AV.rens (fun k => match k with | 0 => 1100 + 1 + 1 + 1 + 1 + 1 + 1 + 1 + 1 | k => k) (rowV encB w)) 10))))).a ((fe' true).a ((fe' true).a t'))))))))))).a t')).a k1'))))))))))))))) (VT.leaf (AV.tuple [AV.ptr 1100 0,AV.slice 1109 0 1 1 (Cp.ex 1),i' 0]) [some (AO.cells [AV.map 1001,e',i' 1099511627776,i' n] 160),some (AO.map [(s' nm1,AV.ptr 1104 0,0)] 1),some (AO.cells [AV.ptr 0 0,s' nmL,i' 1,i' n] 216),some (AO.cells [AV.map 1001] 154),some (AO.cells [AV.map 1001] 154),some (AO.cells (AV.rens (sgN (fun k => match k with | 0 => sgN ((fun x k => k) ()) (newL [(1000,rB w)]) (1100 + 1 + 1 + 1) 1000 | k => k) [1000] 1105) (rowV encB w)) 10),some (AO.cells [AV.slice 1108 0 n 1 (Cp.lo n),e'] 174),some (AO.cells (AV.rens (sgN (fun k => match k with | 0 => sgN ((fun x k => k) ()) (newL [(1000,rB w)]) (1100 + 1 + 1 + 1) 1000 | k => k) [1000] 1105) (rowV encB w)) 10),some (AO.cells [s' nm1,i' 0,AV.slice 1105 0 n 1 (Cp.lo n)] 180),some (AO.cells [s' nm1,i' 0,AV.slice 1105 0 n 1 (Cp.lo n)] 180),some (AO.cells (List.take (n * 1) (List.drop 0 (AV.rens (sgN (fun k => match k with | 0 => sgN ((fun x k => k) ()) (newL [(1000,rB w)]) (1100 + 1 + 1 + 1) 1000 | k => k) [1000] 1105) (rowV encB w)))) 10),some (AO.cells [e'] 148),none,none,none,none,none,none,none] 1110 (k58'.a (k5'.a (k5'.a (k57'.a (k5'.a (h56' (h56' (k50'.a (k5'.a (k7'.a ((k55' n w W F 1103 1000 1100 1105).a (k5'.a (((fe' true).a (((fe' true).a ((fe' true).a t')).a t')).a k1')))))))))))))) := χ
end
theorem wk_tup {a b : List AV} (h : VW a b) : Wk (.tuple a) (.tuple b) := fun N y hy => by
 simp only [VR] at *; obtain ⟨vs, h1, rfl⟩ := hy; exact ⟨vs, h N vs h1, rfl⟩
theorem JX' (k : AV) : D6' k [] := fun j v h => by simp [B4'] at h
theorem do_z : Tri Θ default fDo [nilS, iv 1099511627776] [] (.tuple [.ptr 1000 0, iv 0]) [(1000, dZ)] := by
 refine AF' (con := []) (hints := BA') (lc := []) [1100, 1101, 1102, 1103] rfl (fun _ _ => noC) (fun F _ => noL) fun F => ?_
 refine Yj (eK' F) ⟨fun h => (by cases h), fun _ => ⟨Ye, [.tuple [.ptr 1000 0, iv 0]], [(1000, dkZ), (1001, .map [] 0)], [(1000, 1101), (1001, 1100)], rfl, AO' (vs' := [.tuple [.ptr 1000 0, iv 0]]) (H' := [(1000, dkZ), (1001, .map [] 0)]) _ χ χ (Yb) ⟨⟨_, rfl, Yc⟩, ⟨_, rfl, Yc⟩, Ye⟩, ?_⟩⟩
 exact Goes.shutNew (R := fun _ : Unit => True) (L := fun _ => dZL) (m := .nothing) 1000 δ () trivial χ χ ⟨_, _, rfl, by kernel_rfl⟩ ⟨⟨rfl, Ye, Ye⟩, Ye⟩
theorem gO' : cat [[]] = BF' [] := by simp [cat]
theorem wo_run (W : World) (w : Bs) (hW : ∀ F, AH' W F -> C1OK Θ F fWp (cWz w.length w)) (hcl : ∀ F, C1OK Θ F fCl (cClB w.length w)) (h0 : 0 < w.length) (hb : w.length <= 1048584) :
  Tri Θ W fWo [.ptr 0 0, sv nmL] dZL (.tuple [.ptr 1020 0, .slice 1021 0 1 1 (.lo 1), iv 0]) (uD5 (Int.ofNat w.length) w.length w.length w w ++ [(1020, lgC (Int.ofNat w.length)), (1021, .cells [nilS] tRb)]) := by
 have hrl : (rowV encB w).length = w.length := BS' w; have f2 : decide ((w.length : Int) > Int.ofNat 1099511627776) = false := decide_eq_false (by simp only [Z0]; omega)
 have hus : IntKind.i64.wrap (Int.ofNat 0 + (w.length : Int)) = Int.ofNat w.length := by
  rw [IntWalk.i64_in _ (by simp only [Z0]; omega)]; simp only [Z0]; omega
 have w1 : w.length.ble w.length = true := AL' (Yd)
 have w2 : ∀ σ : Nat -> Nat, List.take (w.length * 1) (List.drop 0 (AV.rens σ (rowV encB w))) = rowV encB w := fun σ => by
  rw [A5', List.drop_zero, List.take_of_length_le (by rw [hrl, Nat.mul_one]; exact Yd)]
 have w3 : (rowV encB w).length.beq (w.length * 1) = true := by rw [hrl, Nat.mul_one]; exact Nat.beq_refl _
 have w4 : (rowV encB w).all AV.one = true := by have := TH' w (fun x => x); rwa [w2] at this
 have w5 : (w.length * 1).ble 140737488355328 = true := AL' ω; have w6 : w.length.ble 9223372036854775807 = true := AL' ω
 refine AF' (con := conOz w.length w) (hints := hOz w.length) (lc := []) kOz rfl (fun F hF => AC' (VB' F) (AC' (KV' (ZL' _) (fun K => ⟨Ye, Ye, Ye⟩) (fun K => trivial) F) (AC' (RZ' F) (AC' (hW F hF) (AC' (KV' (OD' _) (fun K => ⟨Ye, Ye⟩) (fun K => trivial) F) (BJ' (hcl F))))))) (fun F _ => noL) fun F => ?_
 refine Yj (bE' W w.length w F) ⟨fun _ => ⟨fun h => (by cases h), fun _ => ⟨?_, (AO' (vs' := [.tuple [.ptr 1020 0, .slice 1021 0 1 1 (.lo 1), iv 0]]) (H' := [(0, dkC nilS (Int.ofNat w.length)), (1001, mpO mSt mCk), (1002, fiC w.length w.length), (1003, rB w), (1004, rB w), (1020, lgC (Int.ofNat w.length)), (1021, .cells [nilS] tRb)]) [(1001, 1001), (1002, 1104), (1003, 1108), (1004, 1110), (1020, 1100), (1021, 1111)] χ χ (VW.cons (wk_tup (VW.cons Ya (VW.cons (YH' (Yd)) (Yb)))) (Yb)) ⟨⟨_, rfl, Yc⟩, ⟨_, rfl, Yc⟩, ⟨_, rfl, Yc⟩, ⟨_, rfl, AQ' (A5' _ _) rfl⟩, ⟨_, rfl, AQ' (A5' _ _) rfl⟩, ⟨_, rfl, Yc⟩, ⟨_, rfl, Yc⟩, Ye⟩).fits χ⟩⟩, fun h => (by cases h)⟩
 simp only [Cnd.holds, Nat.blt_eq, true_and, and_true, w1, w2, w3, w4, w5, w6, h0]; and_intros; all_goals first | (with_reducible exact Ye) | (with_reducible exact rfl) | (with_reducible exact Ya) | (with_reducible exact Yb) | (with_reducible exact Yc) | (with_reducible exact A2' f2) | (with_reducible exact BG' hus) | (with_reducible exact A2' rfl) | exact JX' _ | exact .inl trivial | exact .inr trivial | exact A2' rfl | exact rfl | exact Ya | exact Yb | exact Yc | (refine OW.of_eq ?_; simp only [AO.ren, A5']; done) | exact Ye
theorem wo_z (W : World) (hN : LN W) : Tri Θ W fWo [.ptr 0 0, sv nmL] [(0, dZ)] (.tuple [.ptr 1020 0, .slice 1021 0 1 1 (.lo 1), iv 0]) [(0, dO [[]] []), (1020, lgC (Int.ofNat (cat [[]]).length)), (1021, .cells [nilS] tRb)] := by
 have hl : (BF' []).length = 8 := BO' []; refine open_z ?_; have := wo_run W (BF' []) (fun F hF => cWz_ok hN F hF) (fun F => GB' (l := BF' []) (by rw [hl]; decide) ω F) ω ω; rw [<- gO'] at this; exact Tri.post this (US' (S := [[]]) (H0 := [(1020, lgC (Int.ofNat (cat [[]]).length)), (1021, .cells [nilS] tRb)]) (by rfl) χ ⟨⟨rfl, rfl, Ye, Ye⟩, Ye⟩ (A0' ⟨rfl, Ye, Ye, Ye, Ye⟩ (A0' ⟨Ye, Ye⟩ A1')))
open Co
noncomputable section
def cCk (oa : Option Addr) (n c : Nat) (e : Int) : List AV -> Option (AP AV) := mkC (fun _ => .ret ()) (fun _ => True) (fun _ k => k) (fun _ => [slV oa n c]) (fun _ => []) (fun _ => .leaf .ret [iv e] [])
def cCC (oa : Option Addr) (n c : Nat) (l : List Chg) : List AV -> Option (AP AV) := mkC (fun _ => .ret ()) (fun _ => True) (fun _ k => k) (fun _ => [slV oa n c]) (fun _ => []) (fun _ => .leaf .ret [sC 1000 n] [(1000, rC l)])
def gMp : List AV -> AP Nat := fun args => match args with
 | [.map i] => .ret i
 | _ => .fail "map"
def cMC (m : KM) (c : Nat) : List AV -> Option (AP AV) := mkC gMp (fun _ => True) nmE (fun _ => [.map 0]) (fun _ => [(0, mO m c)]) (fun _ => .leaf .ret [.map 1000] [(0, mO m c), (1000, mO m c)])
structure Pt where
 l : Nat
 d : Nat
 m : Nat
 r : Nat
 w : Nat
 q : Nat
def gCt (k : Nat -> Nat -> Nat -> AP Pt) : AP Pt := .read 0 fun o => match o with
 | .cells (.ptr l 0 :: .map m :: _) _ => .read l fun o2 => match o2 with
  | .cells (.ptr d 0 :: _) _ => k l d m
  | _ => .fail "log"
 | _ => .fail "catalog"
def gMd : List AV -> AP Pt := fun tms => match tms.getD 6 AV.undef with
 | .slice i _ _ _ _ => gCt fun l d m => .ret ⟨l, d, m, i, 0, 0⟩
 | _ => .fail "made"
def gLp : List AV -> AP Pt := fun tms => match tms.getD 6 AV.undef, tms.getD 8 AV.undef with
 | .slice i _ _ _ _, .ptr w 0 => .read w fun o => match o with
  | .cells (_ :: .map j :: _) _ => gCt fun l d m => .ret ⟨l, d, m, i, w, j⟩
  | _ => .fail "made"
 | _, _ => .fail "made"
def nmLp (p : Pt) (k : Nat) : Nat := match Nat.beq k 1050 with
 | true => p.r
 | false => match Nat.beq k 1051 with
  | true => p.w
  | false => match Nat.beq k 1052 with
   | true => p.q
   | false => match Nat.beq k 1003 with
    | true => p.m
    | false => match k with
     | 1 => p.l
     | 2 => p.d
     | k => k
def lMd (D : AO) (sz b0 : Int) (m0 : KM) (c0 : Nat) (n : Nat) (l l2 : List Chg) : List AV -> AP (AX × List AV) := mkL gMd (fun _ => True) nmLp (fun _ => tms 0 102 (aMd n 0)) (fun _ => oMd D sz b0 m0 c0 l) (fun _ => .leaf (.exit 0) (tms 0 102 [(0, .ptr 0 0), (6, sC 1050 n)]) (oMd D sz b0 m0 c0 l2))
def lLp (D : AO) (sz b0 : Int) (m0 : KM) (c0 : Nat) (n : Nat) (l : List Chg) (b : Int) (m : KM) (c : Nat) (b9 : Int) (m' : KM) (c' : Nat) : List AV -> AP (AX × List AV) := mkL gLp (fun _ => True) nmLp (fun _ => tms 0 102 (aLp n 0)) (fun _ => oLp D sz b0 m0 c0 l b m c) (fun _ => .leaf (.exit 2) (tms 0 102 [(0, .ptr 0 0), (6, sC 1050 n), (8, .ptr 1051 0)]) (oLp D sz b0 m0 c0 l b9 m' c'))
def cEc (n p : Nat) (l : List Chg) (e : Bs) : List AV -> Option (AP AV) := mkC gP1 (fun _ => True) nmE (fun _ => [sC 0 n]) (fun _ => [(0, rC l)]) (fun _ => .leaf .ret [sB 1000 p] [(1000, rB e)])
def gAp : List AV -> AP (Nat × Nat × Nat) := fun args => match args with
 | [.ptr l 0, .slice j _ _ _ _] => .read l fun o => match o with
  | .cells (.ptr d 0 :: _) _ => .ret (d, l, j)
  | _ => .fail "log"
 | [.ptr l 0] => .read l fun o => match o with
  | .cells (.ptr d 0 :: _) _ => .ret (d, l, 0)
  | _ => .fail "log"
 | _ => .fail "log"
def nmA (p : Nat × Nat × Nat) (k : Nat) : Nat := match k with
 | 0 => p.1
 | 2 => p.2.1
 | 4 => p.2.2
 | k => k
def cAp (sz sz' : Int) (p : Nat) (e : Bs) (D D' : AO) : List AV -> Option (AP AV) := mkC gAp (fun _ => True) nmA (fun _ => [.ptr 2 0, sB 4 p]) (fun _ => [(0, D), (2, lgC sz), (4, rB e)]) (fun _ => .leaf .ret [iv 0] [(0, D'), (2, lgC sz'), (4, rB e)])
def cSy (sz : Int) (D D' : AO) : List AV -> Option (AP AV) := mkC gAp (fun _ => True) nmA (fun _ => [.ptr 2 0]) (fun _ => [(0, D), (2, lgC sz)]) (fun _ => .leaf .ret [.tuple []] [(0, D'), (2, lgC sz)])
def kCm : List Nat := [0, 1, 2, 1003, 1100, 1101, 1102, 1103, 1104, 1105, 1106, 1107, 1108, 1109, 1110, 1111, 1112, 1113, 1114, 1115, 1116, 1117, 1118, 1119, 1120, 1121, 1122, 1123, 1124]
abbrev k59' (q0 : Int) : Cnd := (wb' (q0 != Int.ofNat 0) j')
theorem f7' (W : World) (oa : Option Addr) (n c : Nat) (e : Int) (D : AO) (sz b : Int) (m : KM) (ck : Nat) (F : HP) : wRun [(fCk, cCk oa n c e)] (A6' [ht' fCm 2 1]) [] W fCm [.ptr 0 0, slV oa n c] (catG D sz b m ck) [0, 1, 2, 1003] F = VT.leaf (z' e) [some (AO.cells [AV.ptr 1 0,AV.map 1003,z' b] 142),some (AO.cells [AV.ptr 2 0,s' nmL,i' 1,z' sz] 216),some D,some (AO.map (kM m) ck)] 1100 ((k23' oa n c).a ((k59' e).a k1')) := χ
theorem f4' (W : World) (oa : Option Addr) (c : Nat) (D : AO) (sz b : Int) (m : KM) (ck : Nat) (F : HP) : wRun [(fCk, cCk oa 0 c 0)] (A6' [hf' fCm 2 1, ht' fCm 2 5]) [] W fCm [.ptr 0 0, slV oa 0 c] (catG D sz b m ck) [0, 1, 2, 1003] F = VT.leaf (i' 0) [some (AO.cells [AV.ptr 1 0,AV.map 1003,z' b] 142),some (AO.cells [AV.ptr 2 0,s' nmL,i' 1,z' sz] 216),some D,some (AO.map (kM m) ck)] 1100 (((Cnd.p True).a (f' (VW [AV.v (Value.slice oa 0 c)] [AV.v (Value.slice oa 0 c)]))).a (k5'.a (k22'.a k1'))) := χ
abbrev h60' (q0 : Addr) (q1 q2 : Nat) (q3 : AO) (q4 q5 : Int) (q6 : KM) (q7 : Nat) (q8 q9 : List Chg) (q10 q11 q12 q13 q14 : Nat) (q15 : Int) (q16 : KM) (q17 q18 q19 q20 : Nat) (z : Cnd) : Cnd := (((p' True).a (f' (VW [AV.v (Value.slice (some q0) q1 q2)] [AV.v (Value.slice (some q0) q1 q2)]))).a ((f' (Wk (b' false) g')).a ((wb' (↑q1 == Int.ofNat 0) g').a (((p' True).a (f' (VW [AV.v (Value.slice (some q0) q1 q2)] [AV.v (Value.slice (some q0) q1 q2)]))).a ((p' ((fCm,6,A3' fCm 6,lMd q3 q4 q5 q6 q7 q1 q8 q9).snd.snd.fst = (fCm,6,A3' fCm 6,lMd q3 q4 q5 q6 q7 q1 q8 q9).snd.snd.fst)).a ((p' True).a ((p' (VW (AV.ptr 0 0::AV.v (Value.slice (some q0) q1 q2)::u'::u'::i' 0::i' 0::AV.slice q10 0 q1 3 (Cp.lo q1)::ru4 (u'::AV.v (Value.slice (some q0) q1 q2)::i' 0::i' 0::g'::g'::AV.v (Value.slice (some q0) q1 q2)::z' ↑q1::g'::g'::u'::AV.v (Value.slice (some q0) q1 q2)::AV.slice q10 0 q1 3 (Cp.lo q1)::AV.slice q10 0 q1 3 (Cp.lo q1)::z' ↑q1::i' 0::ru16 (ru16 (ru16 (ru16 (ru8 (u'::u'::u'::[]))))))) (AV.ptr 0 0::ra4 (a'::AV.slice q10 0 q1 3 (Cp.lo q1)::ra16 (a'::a'::i' q1::i' 0::ra16 (ra16 (ra16 (ra16 (ra8 (a'::a'::a'::[])))))))))).a ((ow' (AO.cells [AV.ptr 1 0,AV.map q11,z' q5] 142)).a ((ow' (AO.cells [AV.ptr 2 0,s' nmL,i' 1,z' q4] 216)).a ((p' (OW q3 (AO.ren (nmLp (Pt.mk 1 2 q11 q10 0 0)) q3))).a ((p' (OW (AO.map (kM q6) q7) (AO.map (renE (nmLp (Pt.mk 1 2 q11 q10 0 0)) (kM q6)) q7))).a ((p' (OW (AO.cells (AV.rens (sgN (fun k => k) [q12] q10) (rowV chV q8)) 58) (AO.cells (AV.rens (nmLp (Pt.mk 1 2 q11 q10 0 0)) (rowV chV q8)) 58))).a ((fe' true).a (((p' True).a ((vw' [AV.map q13]).a (f' (OW (AO.map (renE (sgN (nmLp (Pt.mk 1 2 q11 q10 0 0)) [q11,q14] q13) (kM q6)) q7) (AO.map (renE (nmE q13) (kM q6)) q7))))).a ((ee' (z' q5)).a ((p' ((fCm,13,A3' fCm 13,lLp q3 q4 q5 q6 q7 q1 q9 q5 q6 q7 q15 q16 q17).snd.snd.fst = (fCm,13,A3' fCm 13,lLp q3 q4 q5 q6 q7 q1 q9 q5 q6 q7 q15 q16 q17).snd.snd.fst)).a ((p' True).a ((p' (VW (AV.ptr 0 0::ra4 (a'::AV.slice q18 0 q1 3 (Cp.lo q1)::a'::AV.ptr q19 0::ra16 (ra8 (ra4 (a'::a'::AV.ptr 0 0::AV.ptr 0 0::AV.ptr 0 1::AV.map q13::AV.map q20::AV.ptr 0 0::AV.ptr 0 0::AV.ptr 0 2::z' q5::AV.agg [AV.v (Value.pointer none),AV.map q20,z' q5]::AV.ptr q19 0::AV.slice q18 0 q1 3 (Cp.lo q1)::z' ↑q1::i' 0::ra16 (ra16 (ra16 (a'::[])))))))) (AV.ptr 0 0::ra4 (a'::AV.slice q18 0 q1 3 (Cp.lo q1)::a'::AV.ptr q19 0::ra16 (ra16 (ra8 (a'::AV.slice q18 0 q1 3 (Cp.lo q1)::i' q1::i' 0::ra16 (ra16 (ra16 (a'::[])))))))))).a ((ow' (AO.cells [AV.ptr 1 0,AV.map q13,z' q5] 142)).a ((ow' (AO.cells [AV.ptr 2 0,s' nmL,i' 1,z' q4] 216)).a ((p' (OW (AO.ren (sgN (nmLp (Pt.mk 1 2 q11 q10 0 0)) [q11,q14] q13) q3) (AO.ren (nmLp (Pt.mk 1 2 q13 q18 q19 q20)) q3))).a ((p' (OW (AO.map (renE (sgN (nmE q13) [q12] q20) (kM q6)) q7) (AO.map (renE (nmLp (Pt.mk 1 2 q13 q18 q19 q20)) (kM q6)) q7))).a ((p' (OW (AO.cells (AV.rens (sgN (nmLp (Pt.mk 1 2 q11 q10 0 0)) [q11,q14] q13) (rowV chV q9)) 58) (AO.cells (AV.rens (nmLp (Pt.mk 1 2 q13 q18 q19 q20)) (rowV chV q9)) 58))).a ((p' (OW (AO.cells [AV.v (Value.pointer none),AV.map q20,z' q5] 142) (AO.cells [a',AV.map q20,z' q5] 142))).a ((p' (OW (AO.map (renE (sgN (nmE q13) [q12] q20) (kM q6)) q7) (AO.map (renE (nmLp (Pt.mk 1 2 q13 q18 q19 q20)) (kM q6)) q7))).a ((fe' true).a z))))))))))))))))))))))))))
theorem f5' (W : World) (a : Addr) (n c p : Nat) (l l2 : List Chg) (e : Bs) (D D' D2 : AO) (sz sz' b b9 : Int) (m m' : KM) (ck ck' : Nat) (F : HP) : wRun [(fCk, cCk (some a) n c 0), (fCC, cCC (some a) n c l), (fMC, cMC m ck), (fEc, cEc n p l2 e), (fAp, cAp sz sz' p e D D'), (fLs, cSy sz' D' D2)] (A6' [hf' fCm 2 1, hf' fCm 2 5, hf' fCm 17 5, hf' fCm 17 11, hf' fCm 20 1]) [(fCm, 6, A3' fCm 6, lMd D sz b m ck n l l2), (fCm, 13, A3' fCm 13, lLp D sz b m ck n l2 b m ck b9 m' ck')] W fCm [.ptr 0 0, slV (some a) n c] (catG D sz b m ck) kCm F = VT.leaf (i' 0) [some (AO.cells [AV.ptr 1 0,AV.map 1108,z' b9] 142),some (AO.cells [AV.ptr 2 0,s' nmL,i' 1,z' sz'] 216),some (AO.ren (sgN (nmA (2,1,0)) [] 0) D2),none,none,none,none,none,none,some (AO.map (renE (sgN (nmLp (Pt.mk 1 2 1101 1102 1104 1103)) [1003,1050,1051,1052] 1105) (kM m)) ck),none,some (AO.cells [a',AV.map 1108,z' b9] 142),some (AO.map (renE (sgN (nmLp (Pt.mk 1 2 1101 1102 1104 1103)) [1003,1050,1051,1052] 1105) (kM m')) ck'),some (AO.cells (AV.rens (sgN (nmA (2,1,1109)) [] 0) (rowV encB e)) 10),none,none,none,none,none,none,none,none,none,none,none,none,none,none,none] 1110 (h60' a n c D sz b m ck l l2 1100 1003 1000 1101 1050 b9 m' ck' 1102 1104 1103 ((wb' (decide (↑(renE (sgN (nmLp (Pt.mk 1 2 1101 1102 1104 1103)) [1003,1050,1051,1052] 1105) (kM m')).length > Int.ofNat 10000)) g').a ((k29' b9).a ((k47' b9).a (k7'.a (((Cnd.p True).a ((vw' [AV.slice 1106 0 n 3 (Cp.lo n)]).a (f' (OW (AO.cells (AV.rens (sgN (nmLp (Pt.mk 1 2 1101 1102 1104 1103)) [1003,1050,1051,1052] 1105) (rowV chV l2)) 58) (AO.cells (AV.rens (nmE 1106) (rowV chV l2)) 58))))).a (((Cnd.p True).a ((vw' [AV.ptr 1 0,AV.slice 1109 0 p 1 (Cp.lo p)]).a ((p' (OW (AO.ren (sgN (nmLp (Pt.mk 1 2 1101 1102 1104 1103)) [1003,1050,1051,1052] 1105) D) (AO.ren (nmA (2,1,1109)) D))).a ((ow' (AO.cells [AV.ptr 2 0,s' nmL,i' 1,z' sz] 216)).a (f' (OW (AO.cells (AV.rens (sgN (nmE 1106) [1000] 1109) (rowV encB e)) 10) (AO.cells (AV.rens (nmA (2,1,1109)) (rowV encB e)) 10))))))).a (k5'.a (k7'.a (((Cnd.p True).a ((vw' [AV.ptr 1 0]).a ((p' (OW (AO.ren (sgN (nmA (2,1,1109)) [] 0) D') (AO.ren (nmA (2,1,0)) D'))).a (f' (OW (AO.cells [AV.ptr 2 0,s' nmL,i' 1,z' sz'] 216) (AO.cells [AV.ptr 2 0,s' nmL,i' 1,z' sz'] 216)))))).a (k7'.a ((k29' b9).a (h15' k1'))))))))))))) := χ
abbrev k61' (q0 : Int) : Cnd := (wb' (decide (q0 > Int.ofNat 500000)) j')
theorem f6' (W : World) (a : Addr) (n c : Nat) (l l2 : List Chg) (D : AO) (sz b b9 : Int) (m m' : KM) (ck ck' : Nat) (F : HP) : wRun [(fCk, cCk (some a) n c 0), (fCC, cCC (some a) n c l), (fMC, cMC m ck)] (A6' [hf' fCm 2 1, hf' fCm 2 5, ht' fCm 17 11]) [(fCm, 6, A3' fCm 6, lMd D sz b m ck n l l2), (fCm, 13, A3' fCm 13, lLp D sz b m ck n l2 b m ck b9 m' ck')] W fCm [.ptr 0 0, slV (some a) n c] (catG D sz b m ck) kCm F = VT.ite (decide (↑(renE (sgN (nmLp (Pt.mk 1 2 1101 1102 1104 1103)) [1003,1050,1051,1052] 1105) (kM m')).length > Int.ofNat 10000)) (VT.leaf (i' 6) [some (AO.cells [AV.ptr 1 0,AV.map 1105,z' b] 142),some (AO.cells [AV.ptr 2 0,s' nmL,i' 1,z' sz] 216),some (AO.ren (sgN (nmLp (Pt.mk 1 2 1101 1102 1104 1103)) [1003,1050,1051,1052] 1105) D),none,none,none,none,none,none,some (AO.map (renE (sgN (nmLp (Pt.mk 1 2 1101 1102 1104 1103)) [1003,1050,1051,1052] 1105) (kM m)) ck),some (AO.cells (AV.rens (sgN (nmLp (Pt.mk 1 2 1101 1102 1104 1103)) [1003,1050,1051,1052] 1105) (rowV chV l2)) 58),some (AO.cells [a',AV.map 1108,z' b9] 142),some (AO.map (renE (sgN (nmLp (Pt.mk 1 2 1101 1102 1104 1103)) [1003,1050,1051,1052] 1105) (kM m')) ck'),none,none,none,none,none,none,none,none,none,none,none,none,none,none,none,none] 1109 (h60' a n c D sz b m ck l l2 1100 1003 1000 1101 1050 b9 m' ck' 1102 1104 1103 k1')) (VT.leaf (i' 6) [some (AO.cells [AV.ptr 1 0,AV.map 1105,z' b] 142),some (AO.cells [AV.ptr 2 0,s' nmL,i' 1,z' sz] 216),some (AO.ren (sgN (nmLp (Pt.mk 1 2 1101 1102 1104 1103)) [1003,1050,1051,1052] 1105) D),none,none,none,none,none,none,some (AO.map (renE (sgN (nmLp (Pt.mk 1 2 1101 1102 1104 1103)) [1003,1050,1051,1052] 1105) (kM m)) ck),some (AO.cells (AV.rens (sgN (nmLp (Pt.mk 1 2 1101 1102 1104 1103)) [1003,1050,1051,1052] 1105) (rowV chV l2)) 58),some (AO.cells [a',AV.map 1108,z' b9] 142),some (AO.map (renE (sgN (nmLp (Pt.mk 1 2 1101 1102 1104 1103)) [1003,1050,1051,1052] 1105) (kM m')) ck'),none,none,none,none,none,none,none,none,none,none,none,none,none,none,none,none] 1109 (h60' a n c D sz b m ck l l2 1100 1003 1000 1101 1050 b9 m' ck' 1102 1104 1103 ((k29' b9).a ((k61' b9).a k1')))) := χ
end
abbrev fDc : Nat := 35
theorem eP' (F : HP) : wRun [] (A6' [hf' fDc 2 2]) [] default fDc [nilS] [] [] F = VT.ite true (VT.leaf (AV.tuple [e',b' true]) [] 1101 (h56' k1')) (VT.leaf (AV.tuple [e',b' true]) [] 1102 ((((fe' 0).a t').a t').a (h56' k1'))) := χ
def cDc : List AV -> Option (AP AV) := mkC (fun _ => .ret ()) (fun _ => True) (fun _ i => i) (fun _ => [nilS]) (fun _ => []) (fun _ => .leaf .ret [.tuple [nilS, bv true]] [])
def catF (D : AO) (sz : Int) (b : Int) (m : KM) (c : Nat) : LH := [(0, ctO (.ptr 1 0) 3 b), (1, lgD 2 sz), (2, D), (3, mO m c)]
def rN : AO := .cells [nilS] tRb
def aOc (i : Nat) : List (Nat × AV) := [(7, .ptr 0 0), (27, .slice 1050 0 1 1 (.lo 1)), (28, iv 1), (29, iv (Int.ofNat i))]
def ixOc : List Nat := [7, 27, 28, 29]
def kOc : List Nat := [0, 1, 2, 3, 1050, 1100, 1101]
def oOc (D : AO) (sz : Int) : LH := catF D sz 0 [] 0 ++ [(1050, rN)]
theorem dN' (D : AO) (sz : Int) (F : HP) : AW' [(fDc, cDc)] (A6' [ht' fCo 6 0, (fCo, 7, 1, hv nilS), hf' fCo 9 1, hf' fCo 12 0, (fCo, 16, 0, hv (iv 1))]) [] default fCo (A3' fCo 6) (tms 0 52 (aOc 0)) (oOc D sz) kOc ixOc F = VT.leaf (AX.normal,[AV.ptr 0 0,AV.slice 1050 0 1 1 (Cp.lo 1),i' 1,i' 1],52) [some (AO.cells [AV.ptr 1 0,AV.map 3,i' 0] 142),some (AO.cells [AV.ptr 2 0,s' nmL,i' 1,z' sz] 216),some D,some (AO.map [] 0),some (AO.cells [e'] 148),none,none] 1100 (h10' ((tt'.a (f' (Wk (e') (e')))).a (((Cnd.p True).a (f' (VW [e'] [e']))).a (k5'.a (k5'.a (k12'.a k1')))))) := χ
theorem dP' (D : AO) (sz : Int) (F : HP) : AW' [] (A6' [hf' fCo 6 0]) [] default fCo (A3' fCo 6) (tms 0 52 (aOc 1)) (oOc D sz) kOc ixOc F = VT.leaf (AX.exit 0,[AV.ptr 0 0,AV.slice 1050 0 1 1 (Cp.lo 1),i' 1,i' 1],52) [some (AO.cells [AV.ptr 1 0,AV.map 3,i' 0] 142),some (AO.cells [AV.ptr 2 0,s' nmL,i' 1,z' sz] 216),some D,some (AO.map [] 0),some (AO.cells [e'] 148),none,none] 1100 (k5'.a k1') := χ
def gOc : List AV -> AP Pt := fun tms => match tms.getD 7 AV.undef, tms.getD 27 AV.undef with
 | .ptr r 0, .slice i _ _ _ _ => .read r fun o => match o with
  | .cells (.ptr l 0 :: .map m :: _) _ => .read l fun o2 => match o2 with
   | .cells (.ptr d 0 :: _) _ => .ret ⟨l, d, m, i, r, 0⟩
   | _ => .fail "log"
  | _ => .fail "catalog"
 | _, _ => .fail "records"
def nmOc (p : Pt) (k : Nat) : Nat := match Nat.beq k 1050 with
 | true => p.r
 | false => match k with
  | 0 => p.w
  | 1 => p.l
  | 2 => p.d
  | 3 => p.m
  | k => k
def lOc (D : AO) (sz : Int) : List AV -> AP (AX × List AV) := mkL gOc (fun _ => True) nmOc (fun _ => tms 0 52 (aOc 0)) (fun _ => oOc D sz) (fun _ => .leaf (.exit 0) (tms 0 52 [(7, .ptr 0 0)]) (oOc D sz))
def cDoZ (Z : AO) : List AV -> Option (AP AV) := mkC (fun _ => .ret ()) (fun _ => True) (fun _ i => i) (fun _ => [nilS, iv 1099511627776]) (fun _ => []) (fun _ => .leaf .ret [.tuple [.ptr 1000 0, iv 0]] [(1000, Z)])
def cWoZ (sz : Int) (D Z : AO) : List AV -> Option (AP AV) := mkC (fun args => match args with | .ptr i 0 :: _ => .ret i | _ => .fail "disk") (fun _ => True) nmE (fun _ => [.ptr 0 0, sv nmL]) (fun _ => [(0, Z)]) (fun _ => .leaf .ret [.tuple [.ptr 1020 0, .slice 1021 0 1 1 (.lo 1), iv 0]] [(0, D), (1020, lgC sz), (1021, rN)])
def kOd : List Nat := [1100, 1101, 1102, 1103, 1104, 1105, 1106, 1107, 1108, 1109]
theorem oOd_eq (W : World) (D Z : AO) (sz : Int) (F : HP) : wRun [(fDo, cDoZ Z), (fWo, cWoZ sz D Z), (fDc, cDc)] (A6' [hf' fOd 2 1, hf' fOd 5 1, hf' fCo 2 1]) [(fCo, 6, A3' fCo 6, lOc D sz)] W fOd [] [] kOd F = VT.leaf (AV.tuple [AV.ptr 1100 0,AV.ptr 1104 0]) [some (AO.ren (sgN (nmOc (Pt.mk 1101 1100 1103 1102 1104 0)) [1050] 1105) D),some (AO.cells [AV.ptr 1100 0,s' nmL,i' 1,z' sz] 216),none,some (AO.map [] 0),some (AO.cells [AV.ptr 1101 0,AV.map 1103,i' 0] 142),some (AO.cells [e'] 148),none,none,none,none] 1106 (((Cnd.p True).a (f' (VW [e',i' 1099511627776] [e',i' 1099511627776]))).a (k5'.a ((((Cnd.p True).a ((p' (VW [AV.ptr 1100 0,s' (ByteArray.mk (Array.mk [99,97,116,97,108,111,103]))] [AV.ptr 1100 0,s' nmL])).a (f' (OW (AO.ren (sgN (fun i => i) [1000] 1100) Z) (AO.ren (nmE 1100) Z))))).a ((f' (Wk (b' false) g')).a ((p' ((fCo,6,A3' fCo 6,lOc D sz).snd.snd.fst = (fCo,6,A3' fCo 6,lOc D sz).snd.snd.fst)).a ((Cnd.p True).a ((p' (VW (AV.ptr 1100 0::u'::AV.v (Value.pointer none)::i' 0::AV.ptr 1101 0::AV.slice 1102 0 1 1 (Cp.lo 1)::i' 0::AV.ptr 1104 0::ru4 (u'::u'::AV.tuple [AV.ptr 1101 0,AV.slice 1102 0 1 1 (Cp.lo 1),i' 0]::AV.ptr 1100 0::AV.tuple [AV.ptr 1101 0,AV.slice 1102 0 1 1 (Cp.lo 1),i' 0]::AV.ptr 1101 0::AV.slice 1102 0 1 1 (Cp.lo 1)::i' 0::i' 0::g'::u'::AV.ptr 1101 0::AV.map 1103::AV.agg [AV.ptr 1101 0,AV.map 1103,i' 0]::AV.ptr 1104 0::AV.slice 1102 0 1 1 (Cp.lo 1)::i' 1::i' 0::ru16 (ru4 (u'::u'::[])))) (ra4 (a'::a'::a'::AV.ptr 1104 0::ra16 (a'::a'::a'::AV.slice 1102 0 1 1 (Cp.lo 1)::i' 1::i' 0::ra16 (ra4 (a'::a'::[]))))))).a ((ow' (AO.cells [AV.ptr 1101 0,AV.map 1103,i' 0] 142)).a ((ow' (AO.cells [AV.ptr 1100 0,s' nmL,i' 1,z' sz] 216)).a ((p' (OW (AO.ren (sgN (nmE 1100) [1020,1021] 1101) D) (AO.ren (nmOc (Pt.mk 1101 1100 1103 1102 1104 0)) D))).a ((ow' (AO.map [] 0)).a (f' (OW (AO.cells [e'] 148) (AO.cells [e'] 148)))))))))))).a (k5'.a k1')))) := χ
def rdv (e : Bs) (o : Nat) : Nat := val ((e.drop o).take 4)
def rdt (e : Bs) (o : Nat) : Δ := bsOf ((e.drop (o + 4)).take (rdv e o))
structure RdP (e : Bs) (o : Nat) (x : Chg) : Prop where
 b0 : e[o]? = some (bitB x.d)
 len : o + 9 + x.k.size + x.v.size <= e.length
 n1 : rdv e (o + 1) = x.k.size
 k1 : rdt e (o + 1) = x.k
 n2 : rdv e (o + 5 + x.k.size) = x.v.size
 v1 : rdt e (o + 5 + x.k.size) = x.v
theorem MO' : ∀ (l : List Chg) (a : Bs), l.foldl en3 a = a ++ l.foldl en3 []
 | [], a => by simp
 | x :: l, a => by
  rw [List.foldl_cons, List.foldl_cons, MO' l (en3 a x), MO' l (en3 [] x), <- List.append_assoc]
  congr 1
  simp [en3, en2, en1]
theorem XV' (a b : List Chg) : encL (a ++ b) = encL a ++ encL b := by rw [encL, List.foldl_append, MO']; rfl
theorem V4' {α : Type} {a b : List α} {n : Nat} (h : a.length = n) : (a ++ b).drop n = b := by subst h; exact List.drop_left
theorem fE' {p r : Bs} {n o : Nat} (hp : p.length = o) (hn : n < 4294967296) : rdv (p ++ (be4 n ++ r)) o = n := by
 rw [rdv, V4' hp, List.take_append_of_le_length (by rw [CQ']; exact Yd), List.take_of_length_le (by rw [CQ']; exact Yd), PM' hn]
theorem tx_at {p r : Bs} {s : Δ} {o : Nat} (hp : p.length = o) (hn : s.size < 4294967296) : rdt (p ++ (be4 s.size ++ (bts s ++ r))) o = s := by
 rw [rdt, fE' hp hn, <- List.append_assoc, V4' (by rw [List.length_append, CQ', hp]), List.take_append_of_le_length (by rw [HB']; exact Yd), List.take_of_length_le (by rw [HB']; exact Yd)]; rfl
theorem enc_at {l : List Chg} {i : Nat} {x : Chg} (hx : l[i]? = some x) (hk : x.k.size < 4294967296) (hv : x.v.size < 4294967296) : RdP (encL l) (encL (l.take i)).length x := by
 have hs : l = l.take (i + 1) ++ l.drop (i + 1) := (List.take_append_drop _ _).symm
 have he : encL l = en3 (encL (l.take i)) x ++ encL (l.drop (i + 1)) := by
  conv => lhs; rw [hs]
  rw [XV', B0' hx, KP']
 generalize encL (l.drop (i + 1)) = r at he
 generalize encL (l.take i) = a at *
 have e0 : encL l = a ++ ([bitB x.d] ++ (be4 x.k.size ++ (bts x.k ++ (be4 x.v.size ++ (bts x.v ++ r))))) := by rw [he]; simp [en3, en2, en1]
 have e1 : encL l = (a ++ [bitB x.d]) ++ (be4 x.k.size ++ (bts x.k ++ (be4 x.v.size ++ (bts x.v ++ r)))) := by rw [e0]; simp
 have e2 : encL l = en2 a x ++ (be4 x.v.size ++ (bts x.v ++ r)) := by rw [e0]; simp [en2, en1]
 have l2 : (en2 a x).length = a.length + 5 + x.k.size := V0' a x
 have l1 : (a ++ [bitB x.d]).length = a.length + 1 := by simp
 refine ⟨?_, ?_, ?_, ?_, ?_, ?_⟩
 ·rw [e0, List.getElem?_append_right (Yd), Nat.sub_self]; rfl
 ·rw [he, List.length_append, QA', szC]; omega
 ·rw [e1]; exact fE' l1 hk
 ·rw [e1]; exact tx_at l1 hk
 ·rw [e2]; exact fE' l2 hv
 ·rw [e2]; exact tx_at l2 hv
def JD' (l : List Chg) : Bool := decide (10000 < l.length) || decide (500000 < ckS l)
def ML' (s : St) : Bool := decide (10000 < s.m.length) || decide (500000 < s.b)
def eCk (l : List Chg) : Int := match JD' l with
 | true => 1
 | false => match okL l with
  | true => 0
  | false => 130
def eCm (s : St) (l : List Chg) : Int := match JD' l with
 | true => 1
 | false => match okL l with
  | false => 130
  | true => match l with
   | [] => 0
   | _ :: _ => match ML' (apL s l) with
    | true => 6
    | false => 0
def IR' (s : St) (l : List Chg) : Bool := !JD' l && okL l && !l.isEmpty && !ML' (apL s l)
def comG (s : St) (l : List Chg) : St := match IR' s l with | true => apL s l | false => s
def logG (Ls : List (List Chg)) (s : St) (l : List Chg) : List (List Chg) := match IR' s l with | true => Ls ++ [l.map BZ'] | false => Ls
structure FitS (s : St) : Prop where
 ok : s.OK
 m : s.m.length <= 10000
 b : s.b <= 500000
def ctX (b : Int) (m : KM) (c : Nat) : LH := [(0, ctO .any 1 b), (1, mO m c)]
theorem R5' : FitS s0 := ⟨aN', Nat.zero_le _, Nat.zero_le _⟩
theorem MP' {s : St} {l : List Chg} (h : IR' s l = true) : JD' l = false /\ okL l = true /\ l ≠ [] /\ ML' (apL s l) = false := by
 simp only [IR', Bool.and_eq_true, Bool.not_eq_true'] at h
 exact ⟨h.1.1.1, h.1.1.2, fun e => by rw [e] at h; simp at h, h.2⟩
theorem JS' {s : St} (h : FitS s) (l : List Chg) : FitS (comG s l) := by
 rw [comG]
 cases hd : IR' s l with
 | false => exact h
 | true =>
  obtain ⟨_, _, _, hf⟩ := MP' hd; simp only [ML', Bool.or_eq_false_iff, decide_eq_false_iff_not] at hf
  exact ⟨P3' h.ok l, by simp only; omega, by simp only; omega⟩
theorem V6' {s : St} {l : List Chg} (h : eCm s l = 0) : comG s l = apL s l := by
 rw [comG, IR']; unfold eCm at h
 cases h1 : JD' l with
 | true => rw [h1] at h; cases h
 | false =>
  rw [h1] at h; simp only at h
  cases h2 : okL l with
  | false => rw [h2] at h; cases h
  | true =>
   rw [h2] at h
   cases l with
   | nil => rfl
   | cons x t =>
    simp only at h
    cases h3 : ML' (apL s (x :: t)) with
    | true => rw [h3] at h; cases h
    | false => rfl
theorem Y0' {s : St} {l : List Chg} (h : eCm s l ≠ 0) : comG s l = s := by
 rw [comG, IR']; unfold eCm at h
 cases h1 : JD' l with
 | true => rfl
 | false =>
  rw [h1] at h; simp only at h
  cases h2 : okL l with
  | false => rfl
  | true =>
   rw [h2] at h
   cases l with
   | nil => exact absurd rfl h
   | cons x t =>
    simp only at h
    cases h3 : ML' (apL s (x :: t)) with
    | true => rfl
    | false => rw [h3] at h; exact absurd rfl h
def rp (Ls : List (List Chg)) : St := Ls.foldl apL s0
theorem YP' {Ls : List (List Chg)} {s : St} (h : rp Ls = s) (l : List Chg) : rp (logG Ls s l) = comG s l := by
 rw [logG, comG]
 cases IR' s l with
 | false => exact h
 | true => simp only [rp, List.foldl_append, List.foldl_cons, List.foldl_nil]; rw [<- rp, h, S4']
theorem RX' : ∀ l : List Chg, szL (l.map BZ') = ckS l
 | [] => rfl
 | x :: l => by
  rw [List.map_cons, D8', RX' l, ckS]; obtain ⟨k, v, d⟩ := x
  cases d <;> rfl
theorem MF' {l : List Chg} (h : JD' l = false) : (encL (l.map BZ')).length <= 590000 /\ szL (l.map BZ') <= 500000 /\ l.length <= 10000 := by
 simp only [JD', Bool.or_eq_false_iff, decide_eq_false_iff_not] at h; rw [GK', RX', List.length_map]; omega
def L1' (Ls : List (List Chg)) : Prop := ∀ l ∈ Ls, l.length <= 10000 /\ szL l <= 500000
theorem LN' {Ls : List (List Chg)} (h : L1' Ls) (s : St) (l : List Chg) : L1' (logG Ls s l) := by
 rw [logG]
 cases hd : IR' s l with
 | false => exact h
 | true =>
  intro x hx
  rcases List.mem_append.1 hx with hx | hx
  ·exact h x hx
  ·obtain rfl := List.mem_singleton.1 hx; obtain ⟨h1, _⟩ := MP' hd; obtain ⟨_, h2, h3⟩ := MF' h1; rw [List.length_map]; exact ⟨h3, h2⟩
theorem KE' {k : Δ} : ∀ {xs : List Chg}, (∀ y ∈ xs, y.k ≠ k) -> HY' k xs = none
 | [], _ => rfl
 | x :: xs, h => by
  rw [HY', KE' (fun y hy => h y (List.mem_cons_of_mem _ hy))]; simp only; rw [if_neg (fun e => h x List.mem_cons_self e.symm)]
theorem O7' : ∀ {xs : List Chg} {i : Nat} {x : Chg}, xs[i]? = some x -> (∀ y ∈ xs.drop (i + 1), y.k ≠ x.k) -> HY' x.k xs = some (if x.d then none else some x.v)
 | [], i, x, h, _ => by simp at h
 | y :: xs, 0, x, h, hl => by
  simp only [List.getElem?_cons_zero, Option.some.injEq] at h; subst h; rw [HY', KE' (by simpa using hl)]; simp only [if_true]
 | y :: xs, i + 1, x, h, hl => by
  rw [HY', O7' (xs := xs) (i := i) (by simpa using h) (by simpa using hl)]
theorem UH' {s : St} (h : s.OK) {xs : List Chg} {i : Nat} {x : Chg} (hx : xs[i]? = some x) (hl : ∀ y ∈ xs.drop (i + 1), y.k ≠ x.k) : B5' x.k (apL s xs).m = if x.d then none else some x.v := by
 rw [Y8' h, O7' hx hl]; rfl
noncomputable section
abbrev k62' : Cnd := (f' (Wk j' j'))
theorem f9' (W : World) (oa : Option Addr) (n c : Nat) (s : Int) (F : HP) : wRun [] (A6' [ht' fCk 9 5, ht' fCk 9 6]) [(fCk, 3, A3' fCk 3, lCk1 oa n c s)] W fCk [slV oa n c] [] [] F = VT.ite (decide (↑n > Int.ofNat 10000)) (VT.leaf (i' 1) [] 1100 (h49' oa n c s (k62'.a k1'))) (VT.leaf (i' 1) [] 1100 (h49' oa n c s ((k61' s).a (k62'.a k1')))) := χ
end
theorem gM' (W : World) (oa : Option Addr) (c : Nat) (l : List Chg) (h : CAt W oa l) (hs : szL l <= C8') : Tri Θ W fCk [slV oa l.length c] [] (iv (eCk l)) [] := by
 have q1 := fun F hF => fR' h hs (c := c) F hF
 rw [eCk]
 cases hL : JD' l with
 | true =>
  refine AF' (con := []) (hints := A6' [ht' fCk 9 5, ht' fCk 9 6]) (lc := [(fCk, 3, A3' fCk 3, lCk1 oa l.length c (Int.ofNat (ckS l)))]) [] rfl (fun _ _ => noC) (fun F hF => C2' (q1 F hF)) fun F => ?_
  simp only [JD', Bool.or_eq_true, decide_eq_true_eq] at hL
  refine Yj (f9' W oa l.length c (Int.ofNat (ckS l)) F) ⟨fun hb => ⟨?_, (AO' (vs' := [iv 1]) (H' := []) [] rfl rfl (Yb) trivial).fits rfl⟩, fun hb => ⟨?_, (AO' (vs' := [iv 1]) (H' := []) [] rfl rfl (Yb) trivial).fits rfl⟩⟩
  ·simp only [Cnd.holds, Nat.blt_eq, true_and, and_true]; and_intros; all_goals first | (with_reducible assumption) | (with_reducible exact Ye) | (with_reducible exact rfl) | (with_reducible exact Ya) | exact A2' hb | exact A2' rfl | exact Kc14'
  ·have hb' : ¬ (10000 < l.length) := by
    simp only [decide_eq_false_iff_not, Int.ofNat_eq_natCast] at hb; omega
   have d2 : Wk (.v (.bool (decide (Int.ofNat (ckS l) > Int.ofNat 500000)))) (.lit true) := A2' (decide_eq_true (by simp only [Z0]; omega))
   simp only [Cnd.holds, Nat.blt_eq, true_and, and_true]; and_intros; all_goals first | (with_reducible assumption) | (with_reducible exact Ye) | (with_reducible exact rfl) | (with_reducible exact Ya) | exact A2' rfl | exact Kc14'
 | false =>
  simp only [JD', Bool.or_eq_false_iff, decide_eq_false_iff_not] at hL; have d1 : Wk (.v (.bool (decide ((l.length : Int) > Int.ofNat 10000)))) (.lit false) := A2' (decide_eq_false (by simp only [Z0]; omega)); have d2 : Wk (.v (.bool (decide (Int.ofNat (ckS l) > Int.ofNat 500000)))) (.lit false) := A2' (decide_eq_false (by simp only [Z0]; omega))
  cases hk : okL l with
  | true =>
   refine AF' (con := []) (hints := hCk false false) (lc := [(fCk, 3, A3' fCk 3, lCk1 oa l.length c (Int.ofNat (ckS l))), (fCk, 12, A3' fCk 12, lCk2 oa l.length c)]) [] rfl (fun _ _ => noC) (fun F hF => IM' (q1 F hF) (C2' (fQ' h hk F hF))) fun F => ?_
   refine Yj (fA' W oa l.length c (Int.ofNat (ckS l)) F) ⟨⟨?_, (AO' (vs' := [iv 0]) (H' := []) [] rfl rfl (Yb) trivial).fits rfl⟩⟩; exact Cc16'
  | false =>
   refine AF' (con := []) (hints := hCk false false) (lc := [(fCk, 3, A3' fCk 3, lCk1 oa l.length c (Int.ofNat (ckS l))), (fCk, 12, A3' fCk 12, UJ' oa l.length c)]) [] rfl (fun _ _ => noC) (fun F hF => IM' (q1 F hF) (C2' (XM' h hk F hF))) fun F => ?_
   refine Yj (fB' W oa l.length c (Int.ofNat (ckS l)) F) ⟨⟨?_, (AO' (vs' := [iv 130]) (H' := []) [] rfl rfl (Yb) trivial).fits rfl⟩⟩; exact Cc16'
theorem gMp_ro : ∀ args, RO (gMp args) := fun args => by
 unfold gMp
 split <;> first | exact RO.ret _ | exact RO.fail _
theorem UU' {k : Nat -> Nat -> Nat -> AP Pt} (h : ∀ l d m, RO (k l d m)) : RO (gCt k) := by
 unfold gCt
 refine RO.read _ _ fun o => ?_
 split
 ·refine RO.read _ _ fun o => ?_
  split <;> first | exact h _ _ _ | exact RO.fail _
 ·exact RO.fail _
theorem gMd_ro : ∀ args, RO (gMd args) := fun args => by
 unfold gMd; split
 ·exact UU' fun _ _ _ => RO.ret _
 ·exact RO.fail _
theorem gLp_ro : ∀ args, RO (gLp args) := fun args => by
 unfold gLp; split
 ·refine RO.read _ _ fun o => ?_
  split
  ·exact UU' fun _ _ _ => RO.ret _
  ·exact RO.fail _
 ·exact RO.fail _
theorem IT' {K : Nat -> Bool} {D : AO} {sz b : Int} {m : KM} {c : Nat} (h1 : K 1 = true) (h2 : K 2 = true) (h3 : K 1003 = true) (hD : D.cl K) : ∀ x ∈ catG D sz b m c, x.2.cl K := A0' ⟨h1, h3, Ye, Ye⟩ (A0' ⟨h2, Ye, Ye, Ye, Ye⟩ (A0' hD (A0' (DL' _ _ _) A1')))
theorem CG' {α : Type} {p : α -> Prop} {a b : List α} (h1 : ∀ x ∈ a, p x) (h2 : ∀ x ∈ b, p x) : ∀ x ∈ a ++ b, p x := fun x hx => by
 rcases List.mem_append.1 hx with h | h
 ·exact h1 x h
 ·exact h2 x h
theorem ZH' : ∀ args, RO (gAp args) := fun args => by
 unfold gAp; split
 ·refine RO.read _ _ fun o => ?_
  split <;> first | exact RO.ret _ | exact RO.fail _
 ·refine RO.read _ _ fun o => ?_
  split <;> first | exact RO.ret _ | exact RO.fail _
 ·exact RO.fail _
theorem ZS' {W : World} {oa : Option Addr} {c : Nat} {l : List Chg} (h : CAt W oa l) (hs : szL l <= C8') {e : Int} (he : eCk l = e) (F : HP) (hF : AH' W F) : C1OK Θ F fCk (cCk oa l.length c e) :=
 AU' hF (fun _ => iv e) (fun _ => RO.ret _) (fun _ => rfl) (fun _ _ => by have := gM' W oa c l h hs; rwa [he] at this) fun _ => ⟨rfl, rfl, ⟨Ye, Ye⟩, A1', ⟨Ye, Ye⟩, A1'⟩
theorem cCC_ok {W : World} {oa : Option Addr} {c : Nat} {l : List Chg} (h : CAt W oa l) (hp : 0 < l.length) (F : HP) (hF : AH' W F) : C1OK Θ F fCC (cCC oa l.length c l) :=
 AU' hF (fun _ => sC 1000 l.length) (fun _ => RO.ret _) (fun _ => rfl) (fun _ _ => cc_tri W oa c l h hp) fun _ => ⟨rfl, rfl, ⟨Ye, Ye⟩, A1', ⟨rfl, Ye⟩, A0' (K9' _ _) A1'⟩
theorem cMC_ok (m : KM) (c : Nat) (F : HP) : C1OK Θ F fMC (cMC m c) :=
 AU' (W := default) AZ' (fun _ => .map 1000) gMp_ro (fun _ => rfl) (fun _ _ => mc_tri m c) fun _ => ⟨rfl, rfl, ⟨rfl, Ye⟩, A0' (DL' _ _ _) A1', ⟨rfl, Ye⟩, A0' (DL' _ _ _) (A0' (DL' _ _ _) A1')⟩
theorem lMd_ok (D : AO) (hD : ∀ σ : Nat -> Nat, OW D (D.ren σ)) (hC : ∀ K, D.cl K) (sz b0 : Int) (m0 : KM) (c0 : Nat) (l : List Chg) (hl : l.length <= 1048576) (F : HP) : L1OK Θ F (A3' fCm 6) (lMd D sz b0 m0 c0 l.length l (l.map BZ')) :=
 BV' (W := default) AZ' (fun _ => gMd_ro _) (fun _ _ => fH' D hD sz b0 m0 c0 l hl) fun _ => by
  simp only [RT.pick]; exact BD' rfl rfl (A0' rfl (A0' rfl (A0' Ye (A0' Ye A1')))) (CG' (IT' rfl rfl rfl (hC _)) (A0' (K9' _ _) A1')) (A0' rfl (A0' rfl A1')) (CG' (IT' rfl rfl rfl (hC _)) (A0' (K9' _ _) A1'))
theorem lLp_ok (D : AO) (hD : ∀ σ : Nat -> Nat, OW D (D.ren σ)) (hC : ∀ K, D.cl K) (sz b0 : Int) (m0 : KM) (c0 : Nat) (s : St) (h : s.OK) (l : List Chg) (hl : l.length <= 1048576) (hb : s.b + szL l <= C8') (F : HP) : L1OK Θ F (A3' fCm 13) (lLp D sz b0 m0 c0 l.length l (Int.ofNat s.b) s.m s.c (Int.ofNat (apL s l).b) (apL s l).m (apL s l).c) :=
 BV' (W := default) AZ' (fun _ => gLp_ro _) (fun _ _ => fN' D hD sz b0 m0 c0 s h l hl hb) fun _ => by
  simp only [RT.pick]; exact BD' rfl rfl (A0' rfl (A0' rfl (A0' rfl (A0' rfl (A0' Ye (A0' Ye A1')))))) (CG' (IT' rfl rfl rfl (hC _)) (A0' (K9' _ _) (A0' ⟨Ye, rfl, Ye, Ye⟩ (A0' (DL' _ _ _) A1')))) (A0' rfl (A0' rfl (A0' rfl A1'))) (CG' (IT' rfl rfl rfl (hC _)) (A0' (K9' _ _) (A0' ⟨Ye, rfl, Ye, Ye⟩ (A0' (DL' _ _ _) A1'))))
theorem cEc_ok (l : List Chg) (hl : l.length <= 1048576) (hb : szL l <= C8') (hne : l ≠ []) (F : HP) : C1OK Θ F fEc (cEc l.length (encL l).length l (encL l)) :=
 AU' (W := default) AZ' (fun _ => sB 1000 (encL l).length) UT' (fun _ => rfl) (fun _ _ => ec_tri l hl hb hne) fun _ => ⟨rfl, rfl, ⟨rfl, Ye⟩, A0' (K9' _ _) A1', ⟨rfl, Ye⟩, A0' (AR' _ _) A1'⟩
theorem cAp_ok {W : World} (hN : LN W) (S : List Bs) (e : Bs) (hr : e.length <= most) (hp : 0 < e.length) (hS : 0 < (cat S).length) (hz : (cat (S ++ [e])).length <= 1099511627776) (F : HP) (hF : AH' W F) : C1OK Θ F fAp (cAp (Int.ofNat (cat (S ++ [])).length) (Int.ofNat (cat (S ++ [e])).length) e.length e (dO S []) (dO S [e])) :=
 AU' hF (fun _ => iv 0) ZH' (fun _ => rfl) (fun _ _ => ap_tri W S [] e hr hS hz δ fun F hF => cWo_ok hN e hr hp F hF) fun _ => ⟨rfl, rfl, ⟨rfl, rfl, Ye⟩, A0' Ye (A0' ⟨rfl, Ye, Ye, Ye, Ye⟩ (A0' (AR' _ _) A1')), ⟨Ye, Ye⟩, A0' Ye (A0' ⟨rfl, Ye, Ye, Ye, Ye⟩ (A0' (AR' _ _) A1'))⟩
theorem cSy_ok (S : List Bs) (e : Bs) (sz : Int) (hS : 0 < (cat S).length) (hz : (cat (S ++ [e])).length <= 1099511627776) (F : HP) : C1OK Θ F fLs (cSy sz (dO S [e]) (dO (S ++ [e]) [])) :=
 AU' (W := default) AZ' (fun _ => .tuple []) ZH' (fun _ => rfl) (fun _ _ => sy_tri S [e] sz hS hz (by show 1 < _; decide)) fun _ => ⟨rfl, rfl, ⟨rfl, Ye⟩, A0' Ye (A0' ⟨rfl, Ye, Ye, Ye, Ye⟩ A1'), ⟨Ye, Ye⟩, A0' Ye (A0' ⟨rfl, Ye, Ye, Ye, Ye⟩ A1')⟩
theorem U7' {a b : List AV} {e : TypeId} (hl : b.length = a.length) (h : VW a b) : OW (.cells a e) (.cells b e) := fun N i D w ho => by
 obtain ⟨l, arr, fz, h1, h2, h3, h4, h5, h6, h7, h8⟩ := ho
 exact ⟨l, arr, fz, h1, h2, h3, h4, by rw [hl]; exact h5, h6, by rw [hl]; exact h N _ h7, h8⟩
theorem VI' {x : AV} {k : Nat} {b : Int} : OW (.cells [x, .map k, iv b] tCt) (.cells [.any, .map k, iv b] tCt) := U7' rfl (VW.cons (Wk.any _) (Yb))
theorem gH' (W : World) (a : Addr) (n c p : Nat) (l l2 : List Chg) (e : Bs) (D D' D2 : AO) (sz sz' b b9 : Int) (m m' : KM) (ck ck' : Nat) (hn : 0 < n)
  (q : ∀ F, AH' W F -> ∀ x ∈ [(fCk, cCk (some a) n c 0), (fCC, cCC (some a) n c l), (fMC, cMC m ck), (fEc, cEc n p l2 e), (fAp, cAp sz sz' p e D D'), (fLs, cSy sz' D' D2)], C1OK Θ F x.1 x.2)
  (ql : ∀ F, AH' W F -> ∀ x ∈ [(fCm, 6, A3' fCm 6, lMd D sz b m ck n l l2), (fCm, 13, A3' fCm 13, lLp D sz b m ck n l2 b m ck b9 m' ck')], L1OK Θ F x.2.2.1 x.2.2.2)
  (hm : m'.length <= 10000) (hb : b9 <= 500000) (hD : ∀ σ, D.ren σ = D) (hD1 : ∀ σ, D'.ren σ = D') (hD2 : ∀ σ, D2.ren σ = D2) :
  Tri Θ W fCm [.ptr 0 0, slV (some a) n c] (catG D sz b m ck) (iv 0) (catG D2 sz' b9 m' ck') := by
 refine AF' (con := [(fCk, cCk (some a) n c 0), (fCC, cCC (some a) n c l), (fMC, cMC m ck), (fEc, cEc n p l2 e), (fAp, cAp sz sz' p e D D'), (fLs, cSy sz' D' D2)]) (hints := A6' [hf' fCm 2 1, hf' fCm 2 5, hf' fCm 17 5, hf' fCm 17 11, hf' fCm 20 1]) (lc := [(fCm, 6, A3' fCm 6, lMd D sz b m ck n l l2), (fCm, 13, A3' fCm 13, lLp D sz b m ck n l2 b m ck b9 m' ck')]) kCm χ q ql fun F => ?_
 clear q ql; refine Yj (f5' W a n c p l l2 e D D' D2 sz sz' b b9 m m' ck ck' F) ⟨⟨?_, (AO' (vs' := [iv 0]) (H' := catG D2 sz' b9 m' ck') [(1003, 1108)] χ χ (Yb) ⟨⟨_, rfl, Yc⟩, ⟨_, rfl, Yc⟩, ⟨_, rfl, by rw [hD2, hD2]; exact Yc⟩, ⟨_, rfl, BT' (BQ' _ _) rfl⟩, Ye⟩).fits rfl⟩⟩; have e1 : Wk (.v (.bool (((n : Nat) : Int) == Int.ofNat 0))) (.lit false) := A2' (by simp only [beq_eq_false_iff_ne, ne_eq, Int.ofNat_eq_natCast]; omega); have e2 : Wk (.v (.bool (decide (((kM m').length : Int) > Int.ofNat 10000)))) (.lit false) := A2' (decide_eq_false (by rw [kM, kE, List.length_map]; simp only [Z0]; omega)); have e3 : Wk (.v (.bool (decide (b9 > Int.ofNat 500000)))) (.lit false) := A2' (decide_eq_false (by simp only [Z0]; omega))
 simp only [Cnd.holds, Nat.blt_eq, true_and, and_true, hD, hD1, hD2, BQ']; and_intros; all_goals first | (with_reducible assumption) | (with_reducible exact Ye) | (with_reducible exact rfl) | (with_reducible exact Ya) | (with_reducible exact Yb) | (with_reducible exact Yc) | exact A2' rfl | exact rfl | exact Ya | exact Yb | exact Yc | exact BT' (BQ' _ _) rfl | exact VI' | exact Kc12'
theorem gI' (W : World) (a : Addr) (n c : Nat) (l l2 : List Chg) (D : AO) (sz b b9 : Int) (m m' : KM) (ck ck' : Nat) (hn : 0 < n)
  (q : ∀ F, AH' W F -> ∀ x ∈ [(fCk, cCk (some a) n c 0), (fCC, cCC (some a) n c l), (fMC, cMC m ck)], C1OK Θ F x.1 x.2)
  (ql : ∀ F, AH' W F -> ∀ x ∈ [(fCm, 6, A3' fCm 6, lMd D sz b m ck n l l2), (fCm, 13, A3' fCm 13, lLp D sz b m ck n l2 b m ck b9 m' ck')], L1OK Θ F x.2.2.1 x.2.2.2)
  (hf : 10000 < m'.length \/ 500000 < b9) (hD : ∀ σ, D.ren σ = D) :
  Tri Θ W fCm [.ptr 0 0, slV (some a) n c] (catG D sz b m ck) (iv 6) (catG D sz b m ck) := by
 refine AF' (con := [(fCk, cCk (some a) n c 0), (fCC, cCC (some a) n c l), (fMC, cMC m ck)]) (hints := A6' [hf' fCm 2 1, hf' fCm 2 5, ht' fCm 17 11]) (lc := [(fCm, 6, A3' fCm 6, lMd D sz b m ck n l l2), (fCm, 13, A3' fCm 13, lLp D sz b m ck n l2 b m ck b9 m' ck')]) kCm χ q ql fun F => ?_
 clear q ql; have e1 : Wk (.v (.bool (((n : Nat) : Int) == Int.ofNat 0))) (.lit false) := A2' (by simp only [beq_eq_false_iff_ne, ne_eq, Int.ofNat_eq_natCast]; omega)
 refine Yj (f6' W a n c l l2 D sz b b9 m m' ck ck' F) ⟨fun hb => ⟨?_, (AO' (vs' := [iv 6]) (H' := catG D sz b m ck) [(1003, 1105)] χ χ (Yb) ⟨⟨_, rfl, Yc⟩, ⟨_, rfl, Yc⟩, ⟨_, rfl, by rw [hD, hD]; exact Yc⟩, ⟨_, rfl, BT' (BQ' _ _) rfl⟩, Ye⟩).fits rfl⟩, fun hb => ⟨?_, (AO' (vs' := [iv 6]) (H' := catG D sz b m ck) [(1003, 1105)] χ χ (Yb) ⟨⟨_, rfl, Yc⟩, ⟨_, rfl, Yc⟩, ⟨_, rfl, by rw [hD, hD]; exact Yc⟩, ⟨_, rfl, BT' (BQ' _ _) rfl⟩, Ye⟩).fits rfl⟩⟩
 all_goals simp only [Cnd.holds, Nat.blt_eq, true_and, and_true, hD, BQ', A5']
 ·and_intros; all_goals exact Kc16'
 ·have hb2 : ¬ (10000 < m'.length) := by
   rw [BQ', kM, kE, List.length_map] at hb; simp only [decide_eq_false_iff_not, Int.ofNat_eq_natCast] at hb; omega
  have e3 : Wk (.v (.bool (decide (b9 > Int.ofNat 500000)))) (.lit true) := A2' (decide_eq_true (by simp only [Z0]; omega))
  and_intros; all_goals exact Kc16'
def logS (S : List Bs) (s : St) (l : List Chg) : List Bs := match IR' s l with | true => S ++ [encL (l.map BZ')] | false => S
def catL (S : List Bs) (s : St) : LH := catG (dO S []) (Int.ofNat (cat (S ++ [])).length) (Int.ofNat s.b) s.m s.c
theorem ZM' (W : World) (S : List Bs) (s : St) {oa : Option Addr} {l : List Chg} (c : Nat) (h : CAt W oa l) (hs : szL l <= C8') {e : Int} (he : eCk l = e) (hne : e ≠ 0) : Tri Θ W fCm [.ptr 0 0, slV oa l.length c] (catL S s) (iv e) (catL S s) := by
 have q := fun F hF => ZS' (c := c) h hs he F hF
 refine AF' (con := [(fCk, cCk oa l.length c e)]) (hints := A6' [ht' fCm 2 1]) (lc := []) [0, 1, 2, 1003] χ (fun F hF => BJ' (q F hF)) (fun _ _ => noL) fun F => ?_
 rw [catL]; have e1 : Wk (.v (.bool (e != Int.ofNat 0))) (.lit true) := A2' (by simpa using hne); refine Yj (f7' W oa l.length c e (dO S []) (Int.ofNat (cat (S ++ [])).length) (Int.ofNat s.b) s.m s.c F) ⟨⟨?_, (AO' (vs' := [iv e]) (H' := catG (dO S []) (Int.ofNat (cat (S ++ [])).length) (Int.ofNat s.b) s.m s.c) [(1003, 1003)] χ χ (Yb) ⟨⟨_, rfl, Yc⟩, ⟨_, rfl, Yc⟩, ⟨_, rfl, Yc⟩, ⟨_, rfl, BT' rfl rfl⟩, Ye⟩).fits rfl⟩⟩
 simp only [Cnd.holds, true_and, and_true]; and_intros; all_goals first | (with_reducible assumption) | exact A2' rfl | exact Ya | exact Yb
theorem gJ' (W : World) (hN : LN W) (S : List Bs) (s : St) (hs : FitS s) {oa : Option Addr} {l : List Chg} (c : Nat) (h : CAt W oa l) (hz : szL l <= C8') (hS : 0 < (cat S).length) (hS2 : (cat S).length <= 1000000000) :
  Tri Θ W fCm [.ptr 0 0, slV oa l.length c] (catL S s) (iv (eCm s l)) (catL (logS S s l) (comG s l)) := by
 unfold eCm logS comG IR'
 cases hL : JD' l with
 | true => exact ZM' (e := 1) W S s c h hz (by rw [eCk, hL]) δ
 | false =>
  cases hk : okL l with
  | false => exact ZM' (e := 130) W S s c h hz (by rw [eCk, hL, hk]) δ
  | true =>
   have ev : eCk l = 0 := by rw [eCk, hL, hk]
   have q1 := fun F hF => ZS' (c := c) h hz ev F hF
   have hlen := h.len
   cases l with
   | nil =>
    show Tri Θ W fCm [.ptr 0 0, slV oa 0 c] (catL S s) (iv 0) (catL S s)
    refine AF' (con := [(fCk, cCk oa 0 c 0)]) (hints := A6' [hf' fCm 2 1, ht' fCm 2 5]) (lc := []) [0, 1, 2, 1003] χ (fun F hF => BJ' (q1 F hF)) (fun _ _ => noL) fun F => ?_
    rw [catL]; refine Yj (f4' W oa c (dO S []) (Int.ofNat (cat (S ++ [])).length) (Int.ofNat s.b) s.m s.c F) ⟨⟨?_, (AO' (vs' := [iv 0]) (H' := catG (dO S []) (Int.ofNat (cat (S ++ [])).length) (Int.ofNat s.b) s.m s.c) [(1003, 1003)] χ χ (Yb) ⟨⟨_, rfl, Yc⟩, ⟨_, rfl, Yc⟩, ⟨_, rfl, Yc⟩, ⟨_, rfl, BT' rfl rfl⟩, Ye⟩).fits rfl⟩⟩
    simp only [Cnd.holds, true_and, and_true]; and_intros; all_goals first | exact A2' rfl | exact Ya | exact Yb
   | cons x t =>
    obtain ⟨a, rfl, _⟩ := h.at' 0 x rfl; have hp : 0 < (x :: t).length := Nat.succ_pos _
    have hne : (x :: t).map BZ' ≠ [] := by simp
    simp only [List.isEmpty_cons, Bool.not_false, Bool.and_true, Bool.true_and]
    generalize hl : x :: t = l at *
    obtain ⟨g1, g2, g3⟩ := MF' hL; have hml : (l.map BZ').length = l.length := List.length_map _; have hla := S5' hs.ok (l.map BZ'); have hea : apL s (l.map BZ') = apL s l := S4' s l; rw [hea, hml] at hla; have hsb := hs.b; have hsm := hs.m; have hen := Q9' hne; have hel : 0 < (encL (l.map BZ')).length := List.length_pos_iff.2 hen; have hmost : most = 1048576 := rfl; have hmb : C8' = 1000000000000 := rfl
    have hcz : (cat (S ++ [encL (l.map BZ')])).length <= 1099511627776 := by
     rw [KT', List.length_append, DS', List.length_append, BO']; show _ + (_ + 0) <= _; omega
    have q2 := fun F hF => cCC_ok (c := c) h hp F hF
    have q3 := fun F => cMC_ok s.m s.c F
    have p1 := fun F => lMd_ok (dO S []) (fun _ => Yc) (fun _ => trivial) (Int.ofNat (cat (S ++ [])).length) (Int.ofNat s.b) s.m s.c l ω F
    have p2 := fun F => lLp_ok (dO S []) (fun _ => Yc) (fun _ => trivial) (Int.ofNat (cat (S ++ [])).length) (Int.ofNat s.b) s.m s.c s hs.ok (l.map BZ') ω ω F
    rw [hea, hml] at p2
    cases hf : ML' (apL s l) with
    | true =>
     simp only [ML', Bool.or_eq_true, decide_eq_true_eq] at hf; rw [catL]
     exact gI' W a l.length c l (l.map BZ') (dO S []) (Int.ofNat (cat (S ++ [])).length) (Int.ofNat s.b) (Int.ofNat (apL s l).b) s.m (apL s l).m s.c (apL s l).c hp (fun F hF => AC' (q1 F hF) (AC' (q2 F hF) (BJ' (q3 F)))) (fun F hF => IM' (p1 F) (C2' (p2 F))) (by simp only [Z0]; omega) (fun _ => rfl)
    | false =>
     simp only [ML', Bool.or_eq_false_iff, decide_eq_false_iff_not] at hf
     have q4 := fun F => cEc_ok (l.map BZ') ω ω hne F
     have q5 := fun F hF => cAp_ok hN S (encL (l.map BZ')) ω hel hS hcz F hF
     have q6 := fun F => cSy_ok S (encL (l.map BZ')) (Int.ofNat (cat (S ++ [encL (l.map BZ')])).length) hS hcz F
     rw [hml] at q4; show Tri _ _ _ _ (catL S s) (iv 0) (catL (S ++ [encL (l.map BZ')]) (apL s l)); rw [catL, catL, List.append_nil (S ++ _)]
     generalize Int.ofNat (cat (S ++ [encL (l.map BZ')])).length = sz' at *
     generalize Int.ofNat (cat (S ++ [])).length = sz at *
     refine gH' W a l.length c (encL (l.map BZ')).length l (l.map BZ') (encL (l.map BZ')) (dO S []) (dO S [encL (l.map BZ')]) (dO (S ++ [encL (l.map BZ')]) []) sz sz' (Int.ofNat s.b) (Int.ofNat (apL s l).b) s.m (apL s l).m s.c (apL s l).c hp ?_ ?_ ω (by simp only [Z0]; omega) (fun _ => rfl) (fun _ => rfl) (fun _ => rfl)
     ·exact fun F hF => AC' (q1 F hF) (AC' (q2 F hF) (AC' (q3 F) (AC' (q4 F) (AC' (q5 F hF) (BJ' (q6 F))))))
     ·exact fun F hF => IM' (p1 F) (C2' (p2 F))
open Go.Maps Go.MapKept
open Int renaming ofNat -> o'
open Go.Value renaming string -> vs'
open AO renaming cells -> ce'
open AV renaming ptr -> pt'
open Cnd renaming holds -> ch'
variable {i : Nat} {k : Γ}
noncomputable section
open Go.WideElems (rd rg rd_mk rg_of rd_key)
def keyL (o : KM) : List Γ := o.map fun e => e.1.data.toList
theorem LO' (o : KM) : (CY' o).Perm (keyL o) := E1' _
theorem CL' (o : KM) : (CY' o).length = o.length := by rw [(LO' o).length_eq, keyL, List.length_map]
theorem lessI {W0 w : World} {N : A9'} {F : HP} {h h' : Eng.T} (r : Rep W0 N F h w) (hh : ∀ i o, h'.find i = some o -> h.find i = some o) : Rep W0 N F h' w := by
 obtain ⟨D0, D, h1, h2, h3⟩ := r.sat
 exact ⟨r.os, r.tape, r.output, D0, D, h1, fun i o hi => h2 i o (hh i o hi), fun i j o o' hi hj => h3 i j o o' (hh i o hi) (hh j o' hj)⟩
section
variable {P : Program} {fS g : FuncId} {e : TypeId} {W : World} {o : KM} {ck : Nat} {tb : TypeId}
def oSk (tb : TypeId) (o : KM) (ck : Nat) : LH := [(0, .cells [.map 1] (2 * tb)), (1, mO o ck)]
theorem HN' (hu : P.underlying e = some .string) (hS : DT' P fS g e) (hm : KI o ck) (hb : o.length * 16 <= 140737488355328) (hwf : ∀ k ∈ keyL o, k.length <= maxLen) {W0 : World} {F : HP} {N : A9'} {w : World} {vargs : Array Value}
  (r : Rep W0 N F (AK' (oSk tb o ck)) w) (ha : VRs N [.func (.func g) [] [.ptr 0 0]] vargs.toList) :
  Calls P fS vargs w fun en w' => ∃ v, en = .returned v /\ w'.ownsRow w.heap.size e 1 v o.length ((CY' o).map encStr) /\ (v = .slice none 0 0 ↔ o = []) /\ Below w.heap.size w w' := by
 obtain ⟨y1, h1, rfl⟩ : ∃ y, VR N (.func (.func g) [] [.ptr 0 0]) y /\ vargs = #[y] := by
  simp only [VRs] at ha; obtain ⟨y, r', h1, rfl, hl⟩ := ha
  exact ⟨y, h1, by cases vargs; simp_all⟩
 have hf : ∀ i, (AK' (oSk tb o ck)).find i = getO (oSk tb o ck) i := AE' rfl; obtain ⟨D, hO⟩ := r.obj ((hf 0).trans rfl); obtain ⟨lb, arr, fz, k1, k2, k3, k4, k5, k6, k7, k8⟩ := hO; obtain ⟨k8, -⟩ := k8 (Nat.mul_mod_right _ _); simp only [VR, VRs] at h1; obtain ⟨f', c', rfl, ⟨y, r', ⟨l, hl, rfl⟩, rfl, rfl⟩, rfl⟩ := h1; obtain rfl : lb = l := Option.some.inj (k1.symm.trans hl)
 have hk7 : ∃ lm, N 1 = some lm /\ arr[0]? = some (.map (some lm.blk)) := by
  simp only [VRs, VR] at k7; obtain ⟨y, r', ⟨l2, hl2, rfl⟩, rfl, hk⟩ := k7; rw [k8, List.drop_zero] at hk; refine ⟨l2, hl2, ?_⟩; have := congrArg (fun z : List Value => z[0]?) hk; simpa [List.getElem?_take] using this
 obtain ⟨lm, hlm, h0⟩ := hk7
 have hcell : w.cell? ⟨lb.blk, 0, none⟩ = some (.map (some lm.blk)) := by simp [World.cell?, k3, h0]
 obtain ⟨es', hbm, hes⟩ := CF' r ((hf 1).trans rfl) hlm
 have hkeys : es'.toList.map (·.key) = (keyL o).map encStr := by
  refine DX' (es := kM o) ?_ hes; clear hm hb hwf r hf hbm hes
  induction o with
  | nil => rfl
  | cons x l ih =>
   show (match GE' (kM l) with | some r => some (x.1.data.toList :: r) | none => none) = _; rw [ih]; rfl
 have hsz : es'.size = o.length := by
  have := congrArg List.length hkeys; simpa [keyL] using this
 have hmax : (140737488355328 : Nat) <= maxLen := by unfold maxLen; omega
 have hborn : es'.toList.map (·.born) = o.map (·.2.2) := (ERs.borns hes).trans (UO' o)
 have hst : Stamped es' ck := by
  refine ⟨fun x hx => ?_, ?_, ?_⟩
  ·have : x.born ∈ o.map (·.2.2) := by rw [<- hborn]; exact List.mem_map_of_mem hx
   obtain ⟨z, hz, hq⟩ := List.mem_map.1 this; rw [<- hq]; exact hm.low z hz
  ·rw [hborn]; exact hm.stamps
  ·rw [hkeys, List.nodup_iff_pairwise_ne, List.pairwise_map]
   exact (List.nodup_iff_pairwise_ne.1 (SP' hm)).imp fun h e => h (encStr_inj e)
 have hkey : ∀ x ∈ es'.toList, ∃ k ∈ keyL o, x.key = encStr k := fun x hx => by
  have : x.key ∈ (keyL o).map encStr := by rw [<- hkeys]; exact List.mem_map_of_mem hx
  obtain ⟨k, hk, hq⟩ := List.mem_map.1 this; exact ⟨k, hk, hq.symm⟩
 have hrd : ∀ x ∈ es'.toList, ∀ k, k ∈ keyL o -> x.key = encStr k -> rd P e (fun _ => some ((.nil : DataW Unit), [])) x = some (.string k, .nil) := fun x hx k hk hq => by
  have hkk := hwf k hk; obtain ⟨kx, vx, bx⟩ := x; simp only at hq; subst hq; refine Go.WideElems.rd_mk (kl := .string k) (yv := (.nil, [])) ?_ rfl; simp only [keyOf, hu, mapKey, encStr]; simp; exact hkk
 have hfit : Go.WideElems.Fit P e (fun _ => some ((.nil : DataW Unit), [])) es' ck := ⟨ω, hst, fun x hx => by
  obtain ⟨k, hk, hq⟩ := hkey x hx
  exact ⟨_, hrd x hx k hk hq⟩⟩
 have hown : w.ownsMap P e (fun _ => some ((.nil : DataW Unit), [])) lm.blk es'.size (.map ((es'.toList.map (rg P e (fun _ => some (.nil, [])))).foldr DataW.insert [])) := ⟨es', ck, hbm, hfit, Yd, rfl⟩
 have hsize : Maps.size (.map ((es'.toList.map (rg P e (fun _ => some ((.nil : DataW Unit), [])))).foldr DataW.insert []) : DataW Unit) = es'.size := by
  rw [Maps.size_eq, length_sorted]; simp
 have hlt : lb.blk < w.heap.size := (Array.getElem?_eq_some_iff.1 k3).1; have hcall := hS lb.blk lm.blk _ _ _ w hlt hcell hown (by rw [hsize]; omega) (by rw [hsize]; omega); rw [k8]
 refine hcall.mono fun en w' ⟨v, ss, hen, hperm, hrow, hnil, hbel⟩ => ?_
 subst hen
 have hpk : (strKeys (.map ((es'.toList.map (rg P e (fun _ => some ((.nil : DataW Unit), [])))).foldr DataW.insert []) : DataW Unit)).Perm (keyL o) := by
  refine ((Go.WideShapes.sorted_perm _).map _).trans ?_
  have : (es'.toList.map (rg P e (fun _ => some ((.nil : DataW Unit), [])))).map (fun p => strOf p.1) = keyL o := by
   rw [List.map_map]
   have h2 : es'.toList.map ((fun p : Lit × DataW Unit => strOf p.1) ∘ rg P e (fun _ => some ((.nil : DataW Unit), []))) = (es'.toList.map (·.key)).map (fun v => match v with | .string s => s.data.toList | _ => []) := by
    rw [List.map_map]
    refine List.map_congr_left fun x hx => ?_
    obtain ⟨k, hk, hq⟩ := hkey x hx; simp only [Function.comp, Go.WideElems.rg_of (hrd x hx k hk hq), hq, strOf, encStr]
   rw [h2, hkeys, List.map_map]; exact (List.map_congr_left fun x _ => by simp [encStr]).trans (List.map_id _)
  rw [this]
 have hsort : ss.mergeSort (fun x y => decide (x <= y)) = CY' o := by
  have h1 : ss.mergeSort (fun x y => decide (x <= y)) = (keyL o).mergeSort Go.leB := mergeSort_of_perm (hperm.trans hpk); rw [h1]
  have he : leS = Go.leB := by funext a b; exact RJ' a b
  have tr : ∀ a b c : Γ, Go.leB a b = true -> Go.leB b c = true -> Go.leB a c = true := fun a b c h1 h2 => by simp only [Go.leB, decide_eq_true_eq] at *; exact List.le_trans h1 h2
  have to : ∀ a b : Γ, (Go.leB a b || Go.leB b a) = true := fun a b => by simp only [Go.leB, Bool.or_eq_true, decide_eq_true_eq]; exact List.le_total a b
  rw [CY', he]; show _ = HO' Go.leB (keyL o); refine List.Perm.eq_of_pairwise (le := fun a b => Go.leB a b = true) (fun a b _ _ h1 h2 => ?_) (List.pairwise_mergeSort tr to _) (DN' tr to _) ((List.mergeSort_perm _ Go.leB).trans (E1' _).symm); simp only [Go.leB, decide_eq_true_eq] at h1 h2; exact List.le_antisymm h1 h2
 rw [hsort] at hrow
 have hlen : ss.length = o.length := by rw [<- CL' o, <- hsort]; simp
 rw [hlen] at hrow; refine ⟨v, rfl, hrow, ?_, hbel⟩; rw [hnil, <- List.length_eq_zero_iff, hlen, List.length_eq_zero_iff]
theorem KI.nil0 (ck : Nat) : KI ([] : KM) ck := ⟨List.nodup_nil, List.nodup_nil, fun e he => by cases he⟩
theorem JZ' (hu : P.underlying e = some .string) (hS : DT' P fS g e) {ck : Nat} : Tri P W fS [.func (.func g) [] [.ptr 0 0]] (oSk tb [] ck) (.v (.slice none 0 0)) (oSk tb [] ck) := by
 intro W0 F N w vargs hF hNB r ha; refine (HN' hu hS (KI.nil0 ck) (by show 0 * 16 <= _; omega) (fun k hk => by cases hk) r ha).mono ?_; rintro en w' ⟨v, rfl, hrow, hnil, hb⟩; rw [hnil.2 rfl]
 exact ⟨_, rfl, N, fun _ _ => rfl, hNB, r.below hb, AD'.2 ⟨VR_v.2 rfl, AX'⟩⟩
theorem JY' (hu : P.underlying e = some .string) (hS : DT' P fS g e) (hm : KI o ck) (hb : o.length * 16 <= 140737488355328) (hwf : ∀ k ∈ keyL o, k.length <= maxLen) (hne : o ≠ []) :
  Tri P W fS [.func (.func g) [] [.ptr 0 0]] (oSk tb o ck) (.slice 1000 0 o.length 1 (.lo o.length)) (oSk tb o ck ++ [(1000, .cells (vmap ((CY' o).map encStr)) (2 * e))]) := by
 intro W0 F N w vargs hF hNB r ha; refine (HN' hu hS hm hb hwf r ha).mono ?_; rintro en w' ⟨v, rfl, hrow, hnil, hb⟩; have hN0 : N 1000 = none := hNB 1000 (Yd) rfl; have r' := r.below hb; obtain ⟨_, hv | ⟨g, cap, cur, rfl, hg, hc, h1, h2, h3, h4⟩⟩ := hrow
 ·have hx := hv.2; rw [List.length_eq_zero_iff] at hx; exact absurd hx hne
 ·have hle := A9'.put_le (l := ⟨g, 0, cur.size⟩) hN0; rw [Nat.mul_one] at h3 h4
  have key : Rep W0 (N.put 1000 ⟨g, 0, cur.size⟩) F (Eng.T.set Eng.T.depth (AK' (oSk tb o ck)) 1000 (.leaf (.cells (vmap ((CY' o).map encStr)) (2 * e)))) w' := by
   refine r.new (n := 1000) δ hle hb ⟨fun b => b = g, ?_, fun b hb => by subst hb; exact hg⟩
   refine ⟨⟨g, 0, cur.size⟩, cur, (0, 0), A9'.put_same, fun _ => Iff.rfl, (by rw [Nat.mul_div_cancel_left _ (by decide : 0 < 2)]; exact hc), by simp, by simp only [vmap, List.length_map, CL']; omega, .inl rfl, ?_, fun _ => ⟨rfl, rfl⟩⟩
   have : ((cur.toList.drop 0).take (vmap ((CY' o).map encStr)).length) = (CY' o).map encStr := by rw [List.drop_zero]; simp only [vmap, List.length_map, CL']; exact h4
   rw [this]; exact VRs.vmap _
  refine ⟨_, rfl, N.put 1000 ⟨g, 0, cur.size⟩, fun i hi => A9'.put_ne ω, fun i hi hg => ?_, lessI key (h' := AK' (oSk tb o ck ++ [(1000, .cells (vmap ((CY' o).map encStr)) (2 * e))])) ?_, ?_⟩
  ·have h1 : i ≠ 1000 := fun e => by subst e; cases hg
   rw [A9'.put_ne h1]; exact hNB i hi (by simp only [oSk, getO]; rw [if_neg ω, if_neg ω])
  ·intro i x hi; rw [AE' rfl] at hi; rw [Eng.T.find_set δ, AE' rfl]
   by_cases h1 : i = 1000
   ·subst h1; rw [if_pos rfl]; exact hi
   ·rw [if_neg h1]; simp only [oSk, List.cons_append, List.nil_append, getO, if_neg h1] at hi ⊢; exact hi
  ·refine AD'.2 ⟨?_, AX'⟩; simp only [VR]
   exact ⟨_, 0, cap, A9'.put_same, rfl, .inl rfl, by simp only; omega, by simp only [Cp.fits]; omega, by omega⟩
end
end
noncomputable section
abbrev fHp : Nat := 40
abbrev fKe : Nat := 64
abbrev tMp : TypeId := 65
abbrev tKr : TypeId := 2 * 9
abbrev tPr : TypeId := 2 * 62
def z0 : Δ := ⟨#[]⟩
def keV (k : Γ) : List Value := [encStr k]
def rK (ks : List Γ) : AO := .cells (rowV keV ks) tKr
def prV (p : Δ × Δ) : List Value := [.string p.1, .string p.2]
def rP (ps : List (Δ × Δ)) : AO := .cells (rowV prV ps) tPr
def sS (k n : Nat) : AV := .slice k 0 n 1 (.lo n)
def sP (k n : Nat) : AV := .slice k 0 n 2 (.lo n)
theorem IO' (k : Γ) : (keV k).length = 1 := rfl
theorem PS' (p : Δ × Δ) : (prV p).length = 2 := rfl
theorem oHp_eq (k : Δ) (F : HP) : wRun [] BA' [] default fHp [sv k, sv z0] [] [] F = VT.ite true (VT.leaf (b' ((k.extract 0 0).toList == [])) [] 1100 k1') (VT.leaf (b' false) [] 1100 k1') := χ
def cHp : List AV -> Option (AP AV) := mkC (fun args => match args with | [.v (.string k), _] => .ret k | _ => .fail "text") (fun _ => True) (fun _ i => i) (fun k => [sv k, sv z0]) (fun _ => []) (fun _ => .leaf .ret [bv true] [])
def gSo : List AV -> AP Nat := fun args => match args with
 | [.func _ _ (.ptr i _ :: _)] => .ret i
 | _ => .fail "sorted"
def nmSo (i : Nat) : Nat -> Nat := fun k => match k with | 0 => i | 1 => 1003 | k => k
def cSoK (m : KM) (ck n : Nat) (ks : List Γ) : List AV -> Option (AP AV) := mkC gSo (fun _ => True) nmSo (fun _ => [.func (.func fKe) [] [.ptr 0 0]]) (fun _ => oSk tMp m ck) (fun _ => .leaf .ret [sS 1000 n] (oSk tMp m ck ++ [(1000, rK ks)]))
def cSoZ (ck : Nat) : List AV -> Option (AP AV) := mkC gSo (fun _ => True) nmSo (fun _ => [.func (.func fKe) [] [.ptr 0 0]]) (fun _ => oSk tMp [] ck) (fun _ => .leaf .ret [nilS] (oSk tMp [] ck))
def aKy (x : AV) (n i : Nat) : List (Nat × AV) := [(1, sv z0), (4, x), (12, sS 1050 n), (13, iv (o' n)), (14, iv (o' i))]
def ixKy : List Nat := [1, 4, 12, 13, 14]
def kKy : List Nat := [1050, 1051, 1100, 1101, 1102, 1103, 1104]
def hKy (k : Δ) (i : Nat) : BI' := A6' [ht' fKs 2 0, (fKs, 3, 1, hv (sv k)), ht' fKs 4 2, (fKs, 6, 0, hv (iv (o' (i + 1))))]
abbrev k63' (q0 : Δ) : Cnd := ((p' True).a ((vw' [s' q0,s' z0]).a (f' (Wk (b' true) j'))))
abbrev k64' (q0 : List Γ) (q1 : Δ) : Cnd := ((p' (Nat.blt 0 (rowV keV q0).length = true)).a ((p' ((rowV keV q0).getD 0 (u') = AV.v (vs' ((rowV keV q0).getD 0 (u')).strOf))).a (f' (Wk (AV.v (vs' ((rowV keV q0).getD 0 (u')).strOf)) (s' q1)))))
abbrev k65' (q0 : Nat) : Cnd := (f' (Nat.blt 0 q0 = true))
abbrev k66' (q0 : Nat) : Cnd := (wb' (decide (o' 0 < o' q0)) j')
theorem eD' (n : Nat) (ks : List Γ) (k : Δ) (F : HP) : AW' [(fHp, cHp)] (hKy k 0) [] default fKs (A3' fKs 2) (tms 0 27 (aKy nilS n 0)) [(1050, rK ks)] kKy ixKy F = VT.leaf (AX.normal,[s' z0,AV.slice 1101 0 1 1 (Cp.lo 1),AV.slice 1050 0 n 1 (Cp.lo n),i' n,i' 1],27) [some (ce' (rowV keV ks) 18),none,some (ce' [s' k] 18),some (ce' [s' k] 18),none,none,none] 1102 ((k66' n).a ((k65' n).a ((k64' ks k).a ((k63' k).a (k8'.a (k12'.a k1')))))) := χ
abbrev h67' (q0 q1 : Nat) (q2 : List Γ) (q3 : Δ) (z : Cnd) : Cnd := ((wb' (decide (o' q0 < o' q1)) j').a ((f' (q0.blt q1 = true)).a (((p' ((0 + q0 * 1).blt (rowV keV q2).length = true)).a ((p' ((rowV keV q2).getD (0 + q0 * 1) (u') = AV.v (vs' ((rowV keV q2).getD (0 + q0 * 1) (u')).strOf))).a (f' (Wk (AV.v (vs' ((rowV keV q2).getD (0 + q0 * 1) (u')).strOf)) (s' q3))))).a z)))
theorem eC' (n i : Nat) (ks L : List Γ) (k : Δ) (F : HP) : AW' [(fHp, cHp)] (hKy k i) [] default fKs (A3' fKs 2) (tms 0 27 (aKy (sS 1051 i) n i)) [(1050, rK ks), (1051, rK L)] kKy ixKy F = VT.leaf (AX.normal,[s' z0,AV.slice 1101 0 (i + 1) 1 (Cp.lo (i + 1)),AV.slice 1050 0 n 1 (Cp.lo n),i' n,i' (i + 1)],27) [some (ce' (rowV keV ks) 18),none,some (ce' [s' k] 18),some (ce' (List.take (i * 1) (List.drop 0 (rowV keV L)) ++ [s' k]) 18),none,none,none] 1102 (h67' i n ks k ((k63' k).a ((tt'.a (tt'.a (tt'.a (tt'.a ((p' ((0 + i * 1).ble (rowV keV L).length = true)).a ((p' (((i + 1) * 16).ble 140737488355328 = true)).a ((p' ((i + 1).ble 9223372036854775807 = true)).a (f' ((List.take (i * 1) (List.drop 0 (rowV keV L))).length.beq (i * 1) = true))))))))).a ((k2' i).a k1')))) := χ
theorem eB' (n i : Nat) (ks L : List Γ) (F : HP) : AW' [] (A6' [hf' fKs 2 0]) [] default fKs (A3' fKs 2) (tms 0 27 (aKy (sS 1051 i) n i)) [(1050, rK ks), (1051, rK L)] kKy ixKy F = VT.leaf (AX.exit 0,[s' z0,AV.slice 1051 0 i 1 (Cp.lo i),AV.slice 1050 0 n 1 (Cp.lo n),i' n,i' i],27) [some (ce' (rowV keV ks) 18),some (ce' (rowV keV L) 18),none,none,none,none,none] 1100 ((k31' i n).a k1') := χ
def gKy : List AV -> AP Nat := fun tms => match tms.getD 12 AV.undef with
 | .slice i _ _ _ _ => .ret i
 | _ => .fail "keys"
def nmKy (i k : Nat) : Nat := match Nat.beq k 1050 with
 | true => i
 | false => k
def lKy (n : Nat) (ks : List Γ) : List AV -> AP (AX × List AV) := mkL gKy (fun _ => True) nmKy (fun _ => tms 0 27 (aKy nilS n 0)) (fun _ => [(1050, rK ks)]) (fun _ => .leaf (.exit 0) (tms 0 27 [(4, sS 1051 n)]) [(1050, rK ks), (1051, rK ks)])
def aPs (x : AV) (n i : Nat) : List (Nat × AV) := [(0, .ptr 0 0), (2, x), (6, sS 1050 n), (7, iv (o' n)), (8, iv (o' i))]
def ixPs : List Nat := [0, 2, 6, 7, 8]
def kPs : List Nat := [0, 1, 2, 3, 1050, 1051, 1100, 1101, 1102, 1103, 1104]
def hPs (k v : Δ) (i : Nat) : BI' := A6' [ht' fPs 2 0, (fPs, 3, 1, hv (sv k)), (fPs, 4, 7, hv (.agg [sv v])), (fPs, 5, 0, hv (iv (o' (i + 1))))]
abbrev k68' (q0 q1 : Δ) (q2 : HP) (q3 : KM) : Cnd := ((p' (findKey Tryz.prog (envW [] (hPs q0 q1 0) [] default q2) 9 (s' q0) (kM q3) 0 = AP.ret (B4' (s' q0) (kM q3) 0))).a (f' (Wk (D2' (B4' (s' q0) (kM q3) 0) (Value.agg (Array.mk [vs' y0']))) (AV.agg [s' q1]))))
theorem d7' (D : AO) (sz b : Int) (m : KM) (c : Nat) (n : Nat) (ks : List Γ) (k v : Δ) (F : HP) : AW' [] (hPs k v 0) [] default fPs (A3' fPs 2) (tms 0 26 (aPs nilS n 0)) (catF D sz b m c ++ [(1050, rK ks)]) kPs ixPs F = VT.leaf (AX.normal,[pt' 0 0,AV.slice 1101 0 1 2 (Cp.lo 1),AV.slice 1050 0 n 1 (Cp.lo n),i' n,i' 1],26) [some (ce' [pt' 1 0,AV.map 3,z' b] 142),some (ce' [pt' 2 0,s' nmL,i' 1,z' sz] 216),some D,some (AO.map (kM m) c),some (ce' (rowV keV ks) 18),none,some (ce' [s' k,s' v] 124),some (ce' [s' k,s' v] 124),none,none,none] 1102 ((k66' n).a ((k65' n).a ((k64' ks k).a (k7'.a ((k68' k v F m).a (k8'.a (k12'.a k1'))))))) := χ
abbrev k69' (q0 : Nat) (q1 : List (Δ × Δ)) : Cnd := (tt'.a (tt'.a (tt'.a (tt'.a ((p' ((0 + q0 * 2).ble (rowV prV q1).length = true)).a ((p' (((q0 + 1) * 32).ble 140737488355328 = true)).a ((p' ((q0 + 1).ble 9223372036854775807 = true)).a (f' ((List.take (q0 * 2) (List.drop 0 (rowV prV q1))).length.beq (q0 * 2) = true)))))))))
abbrev k70' (q0 q1 : Δ) (q2 : Nat) (q3 : HP) (q4 : KM) : Cnd := ((p' (findKey Tryz.prog (envW [] (hPs q0 q1 q2) [] default q3) 9 (s' q0) (kM q4) 0 = AP.ret (B4' (s' q0) (kM q4) 0))).a (f' (Wk (D2' (B4' (s' q0) (kM q4) 0) (Value.agg (Array.mk [vs' y0']))) (AV.agg [s' q1]))))
theorem d6' (D : AO) (sz b : Int) (m : KM) (c : Nat) (n i : Nat) (ks : List Γ) (L : List (Δ × Δ)) (k v : Δ) (F : HP) : AW' [] (hPs k v i) [] default fPs (A3' fPs 2) (tms 0 26 (aPs (sP 1051 i) n i)) (catF D sz b m c ++ [(1050, rK ks), (1051, rP L)]) kPs ixPs F = VT.leaf (AX.normal,[pt' 0 0,AV.slice 1101 0 (i + 1) 2 (Cp.lo (i + 1)),AV.slice 1050 0 n 1 (Cp.lo n),i' n,i' (i + 1)],26) [some (ce' [pt' 1 0,AV.map 3,z' b] 142),some (ce' [pt' 2 0,s' nmL,i' 1,z' sz] 216),some D,some (AO.map (kM m) c),some (ce' (rowV keV ks) 18),none,some (ce' [s' k,s' v] 124),some (ce' (List.take (i * 2) (List.drop 0 (rowV prV L)) ++ [s' k,s' v]) 124),none,none,none] 1102 (h67' i n ks k (k7'.a ((k70' k v i F m).a ((k69' i L).a ((k2' i).a k1'))))) := χ
theorem d5' (D : AO) (sz b : Int) (m : KM) (c : Nat) (n i : Nat) (ks : List Γ) (L : List (Δ × Δ)) (F : HP) : AW' [] (A6' [hf' fPs 2 0]) [] default fPs (A3' fPs 2) (tms 0 26 (aPs (sP 1051 i) n i)) (catF D sz b m c ++ [(1050, rK ks), (1051, rP L)]) kPs ixPs F = VT.leaf (AX.exit 0,[pt' 0 0,AV.slice 1051 0 i 2 (Cp.lo i),AV.slice 1050 0 n 1 (Cp.lo n),i' n,i' i],26) [some (ce' [pt' 1 0,AV.map 3,z' b] 142),some (ce' [pt' 2 0,s' nmL,i' 1,z' sz] 216),some D,some (AO.map (kM m) c),some (ce' (rowV keV ks) 18),some (ce' (rowV prV L) 124),none,none,none,none,none] 1100 ((k31' i n).a k1') := χ
def gPs : List AV -> AP Pt := fun tms => match tms.getD 6 AV.undef with
 | .slice i _ _ _ _ => gCt fun l d m => .ret ⟨l, d, m, i, 0, 0⟩
 | _ => .fail "keys"
def nmPs (p : Pt) (k : Nat) : Nat := match Nat.beq k 1050 with
 | true => p.r
 | false => match k with
  | 1 => p.l
  | 2 => p.d
  | 3 => p.m
  | k => k
def lPs (D : AO) (sz b : Int) (m : KM) (c : Nat) (n : Nat) (ks : List Γ) (ps : List (Δ × Δ)) : List AV -> AP (AX × List AV) := mkL gPs (fun _ => True) nmPs (fun _ => tms 0 26 (aPs nilS n 0)) (fun _ => catF D sz b m c ++ [(1050, rK ks)]) (fun _ => .leaf (.exit 0) (tms 0 26 [(2, sP 1051 n)]) (catF D sz b m c ++ [(1050, rK ks), (1051, rP ps)]))
def kPg : List Nat := [0, 1, 2, 1003, 1100, 1101, 1102, 1103, 1104, 1105, 1106, 1107, 1108]
abbrev k71' (q0 q1 : Nat) : Cnd := (p' (VW (pt' 0 0::u'::e'::u'::u'::pt' 0 0::AV.slice q0 0 q1 1 (Cp.lo q1)::z' ↑q1::i' 0::ru16 (u'::[])) (pt' 0 0::a'::e'::a'::a'::a'::AV.slice q0 0 q1 1 (Cp.lo q1)::i' q1::i' 0::ra16 (a'::[]))))
theorem d4' (D : AO) (sz b : Int) (m : KM) (c : Nat) (n : Nat) (ks : List Γ) (ps : List (Δ × Δ)) (F : HP) : wRun [(fSo, cSoK m c n ks)] BA' [(fKs, 2, A3' fKs 2, lKy n ks), (fPs, 2, A3' fPs 2, lPs D sz b m c n ks ps)] default fPs [.ptr 0 0] (catG D sz b m c) kPg F = VT.leaf (AV.slice 1105 0 n 2 (Cp.lo n)) [some (ce' [pt' 1 0,AV.map 1003,z' b] 142),some (ce' [pt' 2 0,s' nmL,i' 1,z' sz] 216),some (AO.ren (sgN (nmPs (Pt.mk 1 2 1003 1103 0 0)) [1050,1051] 1104) D),some (AO.map (renE (sgN (nmPs (Pt.mk 1 2 1003 1103 0 0)) [1050,1051] 1104) (kM m)) c),some (ce' [AV.map 1003] 130),none,some (ce' (AV.rens (sgN (nmKy 1101) [1050,1051] 1102) (rowV keV ks)) 18),none,some (ce' (AV.rens (sgN (nmPs (Pt.mk 1 2 1003 1103 0 0)) [1050,1051] 1104) (rowV keV ks)) 18),some (ce' (AV.rens (sgN (nmPs (Pt.mk 1 2 1003 1103 0 0)) [1050,1051] 1104) (rowV prV ps)) 124),none,none,none] 1106 (((fe' true).a (((Cnd.p True).a ((vw' [AV.func (Fn.func 64) [] [pt' 1100 0]]).a ((ow' (ce' [AV.map 1003] 130)).a (f' (OW (AO.map (kM m) c) (AO.map (renE (nmSo 1100) (kM m)) c)))))).a ((p' ((fKs,2,A3' fKs 2,lKy n ks).snd.snd.fst = (fKs,2,A3' fKs 2,lKy n ks).snd.snd.fst)).a ((Cnd.p True).a ((p' (VW (pt' 0 0::s' y0'::u'::u'::e'::u'::u'::pt' 0 0::pt' 0 0::pt' 0 1::AV.map 1003::AV.func (Fn.func 64) [] [pt' 1100 0]::AV.slice 1101 0 n 1 (Cp.lo n)::z' ↑n::i' 0::ru8 (ru4 ([]))) (a'::s' z0::a'::a'::e'::ra4 (a'::a'::a'::AV.slice 1101 0 n 1 (Cp.lo n)::i' n::i' 0::ra8 (ra4 ([])))))).a (f' (OW (ce' (AV.rens (sgN (nmSo 1100) [1000] 1101) (rowV keV ks)) 18) (ce' (AV.rens (nmKy 1101) (rowV keV ks)) 18)))))))).a ((p' ((fPs,2,A3' fPs 2,lPs D sz b m c n ks ps).snd.snd.fst = (fPs,2,A3' fPs 2,lPs D sz b m c n ks ps).snd.snd.fst)).a (k4'.a ((k71' 1103 n).a ((ow' (ce' [pt' 1 0,AV.map 1003,z' b] 142)).a ((ow' (ce' [pt' 2 0,s' nmL,i' 1,z' sz] 216)).a ((p' (OW D (AO.ren (nmPs (Pt.mk 1 2 1003 1103 0 0)) D))).a ((p' (OW (AO.map (renE (sgN (nmSo 1100) [1000] 1101) (kM m)) c) (AO.map (renE (nmPs (Pt.mk 1 2 1003 1103 0 0)) (kM m)) c))).a ((p' (OW (ce' (AV.rens (sgN (nmKy 1101) [1050,1051] 1102) (rowV keV ks)) 18) (ce' (AV.rens (nmPs (Pt.mk 1 2 1003 1103 0 0)) (rowV keV ks)) 18))).a k1'))))))))) := χ
theorem d3' (D : AO) (sz b : Int) (c : Nat) (F : HP) : wRun [(fSo, cSoZ c)] (A6' [hf' fKs 2 0, hf' fPs 2 0]) [] default fPs [.ptr 0 0] (catG D sz b [] c) kPg F = VT.leaf (e') [some (ce' [pt' 1 0,AV.map 1003,z' b] 142),some (ce' [pt' 2 0,s' nmL,i' 1,z' sz] 216),some D,some (AO.map [] c),some (ce' [AV.map 1003] 130),none,none,none,none,none,none,none,none] 1101 (((fe' true).a (((Cnd.p True).a ((vw' [AV.func (Fn.func 64) [] [pt' 1100 0]]).a ((ow' (ce' [AV.map 1003] 130)).a (f' (OW (AO.map [] c) (AO.map [] c)))))).a ((f' (Wk (b' false) g')).a t'))).a (k5'.a k1')) := χ
end
abbrev Pr := Δ × Δ
theorem hp_tri (k : Δ) : Tri Θ default fHp [sv k, sv z0] [] (bv true) [] := by
 refine AF' (con := []) (hints := BA') (lc := []) [] rfl (fun _ _ => noC) (fun _ _ => noL) fun F => ?_
 have e : ((k.extract 0 0).toList == []) = true := by
  rw [Lib.toList_data]
  have hs : (k.extract 0 0).size = 0 := by rw [ByteArray.size_extract]; omega
  have hl : (k.extract 0 0).data.toList.length = 0 := hs; rw [List.eq_nil_of_length_eq_zero hl]; rfl
 refine Yj (oHp_eq k F) ⟨fun _ => ⟨Ye, (AO' (vs' := [bv true]) (H' := []) [] rfl rfl (VW.cons (by rw [e]; exact Ya) VW.nil) trivial).fits rfl⟩, fun h => by cases h⟩
theorem ZP' (F : HP) : C1OK Θ F fHp cHp :=
 AU' (W := default) AZ' (fun _ => bv true) (fun args => by split <;> first | exact RO.ret _ | exact RO.fail _) (fun _ => rfl) (fun k _ => hp_tri k) fun _ => ⟨rfl, rfl, ⟨Ye, Ye, Ye⟩, A1', ⟨Ye, Ye⟩, A1'⟩
theorem rK_ren (ks : List Γ) (σ : Nat -> Nat) : (rK ks).ren σ = rK ks := by show ce' _ _ = _; rw [A5']; rfl
theorem MA' (K : Nat -> Bool) (ks : List Γ) : (rK ks).cl K := C1' _ _
theorem JC' {x : List AV} {l : List Γ} {σ : Nat -> Nat} (h : x = rowV keV l) : OW (.cells x tKr) ((rK l).ren σ) := by rw [rK_ren]; subst h; exact Yc
theorem U0' (ps : List Pr) (σ : Nat -> Nat) : (rP ps).ren σ = rP ps := by show ce' _ _ = _; rw [A5']; rfl
theorem H5' (K : Nat -> Bool) (ps : List Pr) : (rP ps).cl K := C1' _ _
theorem H4' {x : List AV} {l : List Pr} {σ : Nat -> Nat} (h : x = rowV prV l) : OW (.cells x tPr) ((rP l).ren σ) := by rw [U0']; subst h; exact Yc
theorem U1' {ks : List Γ} (h : ks[i]? = some k) : (rowV keV ks).getD (0 + i * 1) AV.undef = .v (.string (bsOf k)) := by
 have hi := (List.getElem?_eq_some_iff.1 h).1; have := K4' IO' ks [] i hi; rw [Nat.zero_add]
 have h2 : (rowV keV ks).getD (i * 1) AV.undef = (((rowV keV ks).drop (i * 1)).take 1).getD 0 AV.undef := by
  simp only [List.getD, List.getElem?_take, List.getElem?_drop]; rfl
 rw [h2, this]; simp only [List.getD, h]; rfl
theorem snoc_K {ks : List Γ} (h : ks[i]? = some k) : List.take (i * 1) (List.drop 0 (rowV keV (ks.take i))) ++ [AV.v (.string (bsOf k))] = rowV keV (ks.take (i + 1)) := by
 have hi := (List.getElem?_eq_some_iff.1 h).1; rw [B0' h, BY', List.drop_zero, List.take_of_length_le (by rw [BP' IO', List.length_take]; omega)]; rfl
theorem YM' {ps : List Pr} {p : Pr} (h : ps[i]? = some p) : List.take (i * 2) (List.drop 0 (rowV prV (ps.take i))) ++ [AV.v (.string p.1), AV.v (.string p.2)] = rowV prV (ps.take (i + 1)) := by
 have hi := (List.getElem?_eq_some_iff.1 h).1; rw [B0' h, BY', List.drop_zero, List.take_of_length_le (by rw [BP' PS', List.length_take]; omega)]; rfl
theorem one_K {ks : List Γ} (h : ks[0]? = some k) : [AV.v (.string (bsOf k))] = rowV keV (ks.take 1) := by
 rw [B0' h]; rfl
theorem one_P {ps : List Pr} {p : Pr} (h : ps[0]? = some p) : [AV.v (.string p.1), AV.v (.string p.2)] = rowV prV (ps.take 1) := by
 rw [B0' h]; rfl
def kyA (n : Nat) : Nat -> List (Nat × AV)
 | 0 => aKy nilS n 0
 | i + 1 => aKy (sS 1051 (i + 1)) n (i + 1)
def kyH (ks : List Γ) : Nat -> LH
 | 0 => [(1050, rK ks)]
 | i + 1 => [(1050, rK ks), (1051, rK (ks.take (i + 1)))]
structure RdK (n i : Nat) (V : List AV) (g w : Nat) : Prop where
 k1 : (0 + i * g).ble V.length = true
 k2 : ((i + 1) * w).ble 140737488355328 = true
 k3 : (i + 1).ble 9223372036854775807 = true
 k4 : (List.take (i * g) (List.drop 0 V)).length.beq (i * g) = true
 e1 : Wk (.v (.bool (decide (o' i < o' n)))) (.lit true)
 e3 : Wk (.v (.int .i64 (IntKind.i64.wrap (o' i + o' 1)))) (.v (.int .i64 (o' (i + 1))))
theorem RdK.mk' {n : Nat} {V : List AV} {g w : Nat} (hV : V.length = i * g) (hi : i < n) (hn : n <= 1048576) (hw : w <= 64) : RdK n i V g w := by
 refine ⟨AL' ω, AL' ?_, AL' ω, ?_, A2' (ltTN hi), C6' (B8' i ω)⟩
 ·have : (i + 1) * w <= 1048577 * 64 := Nat.mul_le_mul ω hw; omega
 ·rw [List.drop_zero, List.take_of_length_le ω, hV]; exact Nat.beq_refl _
theorem len_K {ks : List Γ} (h : i <= ks.length) : (rowV keV (ks.take i)).length = i * 1 := by rw [BP' IO', List.length_take]; omega
theorem len_P {ps : List Pr} (h : i <= ps.length) : (rowV prV (ps.take i)).length = i * 2 := by rw [BP' PS', List.length_take]; omega
theorem fS' (ks : List Γ) (h0 : 0 < ks.length) (hn : ks.length <= 1048576) :
  LTri Θ default (A3' fKs 2) (tms 0 27 (aKy nilS ks.length 0)) [(1050, rK ks)] (.exit 0) (tms 0 27 [(4, sS 1051 ks.length)]) [(1050, rK ks), (1051, rK ks)] := by
 refine B6' (W := default) (g := fKs) (b := A3' fKs 2) (σ := {i : Nat // i <= ks.length}) 27 (fun i => kyA ks.length i.1) (fun i => kyH ks i.1) (.exit 0) [(4, sS 1051 ks.length)] [(1050, rK ks), (1051, rK ks)] (fun i => ks.length - i.1) kKy ixKy (by intro h; cases h) (fun i => by obtain ⟨_ | i, hi⟩ := i <;> rfl) χ ?_ ⟨0, Nat.zero_le _⟩; rintro ⟨i, hi⟩; simp only
 by_cases h1 : i < ks.length
 ·obtain ⟨k, hk⟩ := AY' h1; have hg := U1' hk
  have hl : (0 + i * 1).blt (rowV keV ks).length = true := by rw [BP' IO', Nat.blt_eq]; omega
  have hlt : i.blt ks.length = true := by rw [Nat.blt_eq]; exact h1
  cases i with
  | zero =>
   have e1 : Wk (.v (.bool (decide (o' 0 < o' ks.length)))) (.lit true) := A2' (ltTN h1); have hg0 : (rowV keV ks).getD 0 AV.undef = .v (.string (bsOf k)) := hg; have hl0 : Nat.blt 0 (rowV keV ks).length = true := hl
   refine ⟨[(fHp, cHp)], hKy (bsOf k) 0, [], fun F _ => BJ' (ZP' F), fun _ _ => noL, fun F => ?_⟩
   refine Yj (eD' ks.length ks (bsOf k) F) ⟨⟨?_, rfl, .inl ⟨rfl, ⟨1, h1⟩, B1' h1, [(1050, 1050), (1051, 1101)], by kernel_rfl, by kernel_rfl, ⟨Ya, Ya, Ya, Ya, Ya, Ye⟩, ⟨_, rfl, JC' rfl⟩, ⟨_, rfl, JC' (one_K hk)⟩, Ye⟩⟩⟩
   simp only [ch', hg0, hl0, hlt, true_and, and_true]; and_intros; all_goals exact Kc30'
  | succ i =>
   have Q := RdK.mk' (w := 16) (len_K (Nat.le_of_lt h1)) h1 hn δ; obtain ⟨k1, k2, k3, k4, e1, e3⟩ := Q
   refine ⟨[(fHp, cHp)], hKy (bsOf k) (i + 1), [], fun F _ => BJ' (ZP' F), fun _ _ => noL, fun F => ?_⟩
   refine Yj (eC' ks.length (i + 1) ks (ks.take (i + 1)) (bsOf k) F) ⟨⟨?_, rfl, .inl ⟨rfl, ⟨i + 2, h1⟩, B1' h1, [(1050, 1050), (1051, 1101)], by kernel_rfl, by kernel_rfl, ⟨Ya, Ya, Ya, Ya, Ya, Ye⟩, ⟨_, rfl, JC' rfl⟩, ⟨_, rfl, JC' (snoc_K hk)⟩, Ye⟩⟩⟩
   simp only [ch', hg, hl, hlt, k1, k2, k3, k4, true_and, and_true]; and_intros; all_goals exact Kc30'
 ·have hie : i = ks.length := ω
  obtain ⟨j, hj⟩ : ∃ j, ks.length = j + 1 := ⟨ks.length - 1, by omega⟩
  subst hie
  have eA : kyA ks.length ks.length = aKy (sS 1051 ks.length) ks.length ks.length := by rw [hj]; rfl
  have eH : kyH ks ks.length = [(1050, rK ks), (1051, rK ks)] := by
   have : kyH ks ks.length = [(1050, rK ks), (1051, rK (ks.take ks.length))] := by rw [hj]; rfl
   rw [this, List.take_length]
  rw [eA, eH]
  refine ⟨[], A6' [hf' fKs 2 0], [], fun _ _ => noC, fun _ _ => noL, fun F => ?_⟩
  refine Yj (eB' ks.length ks.length ks ks F) ⟨⟨?_, rfl, .inr ⟨rfl, [(1050, 1050), (1051, 1051)], by kernel_rfl, by kernel_rfl, ⟨Ya, Ye⟩, ⟨_, rfl, JC' rfl⟩, ⟨_, rfl, JC' rfl⟩, Ye⟩⟩⟩
  simp only [ch', and_true]; exact A2' (ltFN (Yd))
theorem gKy_ro : ∀ tms, RO (gKy tms) := fun tms => by
 unfold gKy
 split <;> first | exact RO.ret _ | exact RO.fail _
theorem Z7' (ks : List Γ) (h0 : 0 < ks.length) (hn : ks.length <= 1048576) (F : HP) : L1OK Θ F (A3' fKs 2) (lKy ks.length ks) :=
 BV' (W := default) AZ' (fun _ => gKy_ro _) (fun _ _ => fS' ks h0 hn) fun _ => by
  simp only [RT.pick]; exact BD' rfl rfl (A0' Ye (A0' Ye (A0' rfl (A0' Ye (A0' Ye A1'))))) (A0' (MA' _ _) A1') (A0' rfl A1') (A0' (MA' _ _) (A0' (MA' _ _) A1'))
def psA (n : Nat) : Nat -> List (Nat × AV)
 | 0 => aPs nilS n 0
 | i + 1 => aPs (sP 1051 (i + 1)) n (i + 1)
def psH (D : AO) (sz b : Int) (m : KM) (c : Nat) (ks : List Γ) (ps : List Pr) : Nat -> LH
 | 0 => catF D sz b m c ++ [(1050, rK ks)]
 | i + 1 => catF D sz b m c ++ [(1050, rK ks), (1051, rP (ps.take (i + 1)))]
theorem RH' {k old : Δ} {m : KM} {z : Value} (h : B5' k m = some old) : Wk (D2' (B4' (.v (.string k)) (kM m) 0) z) (.agg [.v (.string old)]) := by
 rw [fx_m, h]; exact Ya
theorem aT' (D : AO) (hD : ∀ σ, D.ren σ = D) (sz b : Int) (m : KM) (c : Nat) (ks : List Γ) (ps : List Pr) (hps : ks.length = ps.length) (hkp : ∀ (i : Nat) (k : Γ) (p : Pr), ks[i]? = some k -> ps[i]? = some p -> p.1 = bsOf k /\ B5' p.1 m = some p.2) (h0 : 0 < ks.length) (hn : ks.length <= 1048576) :
  LTri Θ default (A3' fPs 2) (tms 0 26 (aPs nilS ks.length 0)) (catF D sz b m c ++ [(1050, rK ks)]) (.exit 0) (tms 0 26 [(2, sP 1051 ks.length)]) (catF D sz b m c ++ [(1050, rK ks), (1051, rP ps)]) := by
 refine B6' (W := default) (g := fPs) (b := A3' fPs 2) (σ := {i : Nat // i <= ks.length}) 26 (fun i => psA ks.length i.1) (fun i => psH D sz b m c ks ps i.1) (.exit 0) [(2, sP 1051 ks.length)] (catF D sz b m c ++ [(1050, rK ks), (1051, rP ps)]) (fun i => ks.length - i.1) kPs ixPs (by intro h; cases h) (fun i => by obtain ⟨_ | i, hi⟩ := i <;> rfl) χ ?_ ⟨0, Nat.zero_le _⟩; rintro ⟨i, hi⟩; simp only
 by_cases h1 : i < ks.length
 ·obtain ⟨k, hk⟩ := AY' h1; obtain ⟨p, hp⟩ := AY' (l := ps) (i := i) ω; obtain ⟨hpk, hlk⟩ := hkp i k p hk hp; have hg := U1' hk; rw [<- hpk] at hg
  have hl : (0 + i * 1).blt (rowV keV ks).length = true := by rw [BP' IO', Nat.blt_eq]; omega
  have hlt : i.blt ks.length = true := by rw [Nat.blt_eq]; exact h1
  obtain ⟨pk, pv⟩ := p; simp only at hlk hg
  have hw := fun z => RH' (z := z) hlk
  cases i with
  | zero =>
   have e1 : Wk (.v (.bool (decide (o' 0 < o' ks.length)))) (.lit true) := A2' (ltTN h1); have hg0 : (rowV keV ks).getD 0 AV.undef = .v (.string pk) := hg; have hl0 : Nat.blt 0 (rowV keV ks).length = true := hl
   refine ⟨[], hPs pk pv 0, [], fun _ _ => noC, fun _ _ => noL, fun F => ?_⟩
   refine Yj (d7' D sz b m c ks.length ks pk pv F) ⟨⟨?_, rfl, .inl ⟨rfl, ⟨1, h1⟩, B1' h1, [(1050, 1050), (1051, 1101)], by kernel_rfl, by kernel_rfl, ⟨Ya, Ya, Ya, Ya, Ya, Ye⟩, ⟨_, rfl, Yc⟩, ⟨_, rfl, Yc⟩, ⟨_, rfl, OW.of_eq (hD _).symm⟩, ⟨_, rfl, BT' rfl rfl⟩, ⟨_, rfl, JC' rfl⟩, ⟨_, rfl, H4' (one_P hp)⟩, Ye⟩⟩⟩
   exact Cc17'
  | succ i =>
   have Q := RdK.mk' (n := ks.length) (w := 32) (len_P (ps := ps) (i := i + 1) ω) h1 hn δ; obtain ⟨k1, k2, k3, k4, e1, e3⟩ := Q
   refine ⟨[], hPs pk pv (i + 1), [], fun _ _ => noC, fun _ _ => noL, fun F => ?_⟩
   refine Yj (d6' D sz b m c ks.length (i + 1) ks (ps.take (i + 1)) pk pv F) ⟨⟨?_, rfl, .inl ⟨rfl, ⟨i + 2, h1⟩, B1' h1, [(1050, 1050), (1051, 1101)], by kernel_rfl, by kernel_rfl, ⟨Ya, Ya, Ya, Ya, Ya, Ye⟩, ⟨_, rfl, Yc⟩, ⟨_, rfl, Yc⟩, ⟨_, rfl, OW.of_eq (hD _).symm⟩, ⟨_, rfl, BT' rfl rfl⟩, ⟨_, rfl, JC' rfl⟩, ⟨_, rfl, H4' (YM' hp)⟩, Ye⟩⟩⟩
   exact Cc18'
 ·have hie : i = ks.length := ω
  obtain ⟨j, hj⟩ : ∃ j, ks.length = j + 1 := ⟨ks.length - 1, by omega⟩
  subst hie
  have eA : psA ks.length ks.length = aPs (sP 1051 ks.length) ks.length ks.length := by rw [hj]; rfl
  have eH : psH D sz b m c ks ps ks.length = catF D sz b m c ++ [(1050, rK ks), (1051, rP ps)] := by
   have : psH D sz b m c ks ps ks.length = catF D sz b m c ++ [(1050, rK ks), (1051, rP (ps.take ks.length))] := by rw [hj]; rfl
   rw [this, hps, List.take_length]
  rw [eA, eH]
  refine ⟨[], A6' [hf' fPs 2 0], [], fun _ _ => noC, fun _ _ => noL, fun F => ?_⟩
  refine Yj (d5' D sz b m c ks.length ks.length ks ps F) ⟨⟨?_, rfl, .inr ⟨rfl, [(1050, 1050), (1051, 1051)], by kernel_rfl, by kernel_rfl, ⟨Ya, Ye⟩, ⟨_, rfl, Yc⟩, ⟨_, rfl, Yc⟩, ⟨_, rfl, OW.of_eq (hD _).symm⟩, ⟨_, rfl, BT' rfl rfl⟩, ⟨_, rfl, JC' rfl⟩, ⟨_, rfl, H4' rfl⟩, Ye⟩⟩⟩
  simp only [ch', and_true]; exact A2' (ltFN (Yd))
theorem RM' : ∀ args, RO (gSo args) := fun args => by
 unfold gSo
 split <;> first | exact RO.ret _ | exact RO.fail _
theorem gPs_ro : ∀ tms, RO (gPs tms) := fun tms => by
 unfold gPs; split
 ·exact UU' fun _ _ _ => RO.ret _
 ·exact RO.fail _
theorem huS : Θ.underlying 9 = some .string := χ
theorem gX' {m : KM} {ck : Nat} (hm : KI m ck) (hb : m.length * 16 <= 140737488355328) (hwf : ∀ k ∈ keyL m, k.length <= maxLen) (hne : m ≠ []) (F : HP) : C1OK Θ F fSo (cSoK m ck m.length (CY' m)) :=
 AU' (W := default) AZ' (fun _ => sS 1000 m.length) RM' (fun _ => rfl) (fun _ _ => by
  have := JY' (W := default) (tb := tMp) huS DG' hm hb hwf hne
  have e : vmap ((CY' m).map encStr) = rowV keV (CY' m) := by
   rw [rowV]; refine congrArg vmap ?_
   induction CY' m with
   | nil => rfl
   | cons x l ih => rw [List.map_cons, List.flatMap_cons, ih]; rfl
  rw [e] at this
  exact this) fun _ => ⟨rfl, rfl, ⟨⟨Ye, rfl, Ye⟩, Ye⟩, A0' ⟨rfl, Ye⟩ (A0' (DL' _ _ _) A1'), ⟨rfl, Ye⟩, A0' ⟨rfl, Ye⟩ (A0' (DL' _ _ _) (A0' (MA' _ _) A1'))⟩
theorem gU' (ck : Nat) (F : HP) : C1OK Θ F fSo (cSoZ ck) :=
 AU' (W := default) AZ' (fun _ => nilS) RM' (fun _ => rfl) (fun _ _ => JZ' (W := default) (tb := tMp) huS DG') fun _ => ⟨rfl, rfl, ⟨⟨Ye, rfl, Ye⟩, Ye⟩, A0' ⟨rfl, Ye⟩ (A0' (DL' _ _ _) A1'), ⟨Ye, Ye⟩, A0' ⟨rfl, Ye⟩ (A0' (DL' _ _ _) A1')⟩
theorem KU' {K : Nat -> Bool} {D : AO} {sz b : Int} {m : KM} {c : Nat} (h1 : K 1 = true) (h2 : K 2 = true) (h3 : K 3 = true) (hD : D.cl K) : ∀ x ∈ catF D sz b m c, x.2.cl K := A0' ⟨h1, h3, Ye, Ye⟩ (A0' ⟨h2, Ye, Ye, Ye, Ye⟩ (A0' hD (A0' (DL' _ _ _) A1')))
theorem lPs_ok (D : AO) (hD : ∀ σ, D.ren σ = D) (cD : ∀ K, D.cl K) (sz b : Int) (m : KM) (c : Nat) (ks : List Γ) (ps : List Pr) (hps : ks.length = ps.length) (hkp : ∀ (i : Nat) (k : Γ) (p : Pr), ks[i]? = some k -> ps[i]? = some p -> p.1 = bsOf k /\ B5' p.1 m = some p.2) (h0 : 0 < ks.length) (hn : ks.length <= 1048576) (F : HP) : L1OK Θ F (A3' fPs 2) (lPs D sz b m c ks.length ks ps) :=
 BV' (W := default) AZ' (fun _ => gPs_ro _) (fun _ _ => aT' D hD sz b m c ks ps hps hkp h0 hn) fun _ => by
  simp only [RT.pick]; exact BD' rfl rfl (A0' rfl (A0' Ye (A0' rfl (A0' Ye (A0' Ye A1'))))) (CG' (KU' rfl rfl rfl (cD _)) (A0' (MA' _ _) A1')) (A0' rfl A1') (CG' (KU' rfl rfl rfl (cD _)) (A0' (MA' _ _) (A0' (H5' _ _) A1')))
theorem aV' (D : AO) (hD : ∀ σ, D.ren σ = D) (sz b : Int) (m : KM) (c n : Nat) (ks : List Γ) (ps : List Pr)
  (q : ∀ F, C1OK Θ F fSo (cSoK m c n ks)) (q1 : ∀ F, L1OK Θ F (A3' fKs 2) (lKy n ks)) (q2 : ∀ F, L1OK Θ F (A3' fPs 2) (lPs D sz b m c n ks ps)) :
  Tri Θ default fPs [.ptr 0 0] (catG D sz b m c) (sP 1000 n) (catG D sz b m c ++ [(1000, rP ps)]) := by
 refine AF' (con := [(fSo, cSoK m c n ks)]) (hints := BA') (lc := [(fKs, 2, A3' fKs 2, lKy n ks), (fPs, 2, A3' fPs 2, lPs D sz b m c n ks ps)]) kPg χ (fun F _ => BJ' (q F)) (fun F _ => IM' (q1 F) (C2' (q2 F))) fun F => ?_
 clear q q1 q2; refine Yj (d4' D sz b m c n ks ps F) ⟨⟨?_, (AO' (vs' := [sP 1000 n]) (H' := catG D sz b m c ++ [(1000, rP ps)]) [(1003, 1003), (1000, 1105)] χ χ (Yb) (show JB' _ _ _ [(0, _), (1, _), (2, D), (1003, mO m c), (1000, rP ps)] from ⟨⟨_, rfl, Yc⟩, ⟨_, rfl, Yc⟩, ⟨_, rfl, by rw [hD, hD]; exact Yc⟩, ⟨_, rfl, BT' (BQ' _ _) rfl⟩, ⟨_, rfl, H4' (A5' _ _)⟩, Ye⟩)).fits rfl⟩⟩
 simp only [ch', true_and, and_true, hD, BQ', A5']; and_intros; all_goals exact Kc19'
theorem aU' (D : AO) (hD : ∀ σ, D.ren σ = D) (sz b : Int) (c : Nat) : Tri Θ default fPs [.ptr 0 0] (catG D sz b [] c) nilS (catG D sz b [] c) := by
 refine AF' (con := [(fSo, cSoZ c)]) (hints := A6' [hf' fKs 2 0, hf' fPs 2 0]) (lc := []) kPg χ (fun F _ => BJ' (gU' c F)) (fun _ _ => noL) fun F => ?_
 refine Yj (d3' D sz b c F) ⟨⟨?_, (AO' (vs' := [nilS]) (H' := catG D sz b [] c) [(1003, 1003)] χ χ (Yb) ⟨⟨_, rfl, Yc⟩, ⟨_, rfl, Yc⟩, ⟨_, rfl, OW.of_eq (hD _).symm⟩, ⟨_, rfl, BT' rfl rfl⟩, Ye⟩).fits rfl⟩⟩
 simp only [ch', true_and, and_true]; and_intros; all_goals exact Kc31'
theorem key_le {m : KM} {e : Δ × Δ × Nat} (h : e ∈ m) : e.1.size <= byB m := by
 induction m with
 | nil => cases h
 | cons x l ih =>
  rw [I8']
  rcases List.mem_cons.1 h with rfl | h
  ·rw [kvB]; omega
  ·have := ih h; omega
theorem RC' {m : KM} (i : Nat) (k : Γ) (p : Pr) (hk : (CY' m)[i]? = some k) (hp : (C7' m)[i]? = some p) : p.1 = bsOf k /\ B5' p.1 m = some p.2 := by
 rw [C7', List.getElem?_map, hk] at hp; cases hp; refine ⟨rfl, ?_⟩; have hm : k ∈ keyL m := (LO' m).mem_iff.1 (List.mem_of_getElem? hk); have := (XN' (m := m) k).1 hm; show B5' (bsOf k) m = some _
 cases h : B5' (bsOf k) m with
 | none => exact absurd h this
 | some v => simp only [h, Option.getD_some]
theorem G4' (m : KM) : (C7' m).length = m.length := by rw [C7', List.length_map, CL']
theorem UL' {s : St} (hs : s.OK) (hb : s.b <= 1000000) : ∀ k ∈ keyL s.m, k.length <= maxLen := fun k hk => by
 obtain ⟨e, he, rfl⟩ := List.mem_map.1 hk; have h1 := key_le he; have h2 := hs.by_; have h3 : e.1.data.toList.length = e.1.size := rfl
 have : (1000000 : Nat) <= maxLen := by unfold maxLen; omega
 omega
theorem MB' (S : List Bs) (s : St) (hs : s.OK) (hb : s.b <= 1000000) (hn : s.m.length <= 1000000) (hne : s.m ≠ []) :
  Tri Θ default fPs [.ptr 0 0] (catL S s) (sP 1000 (C7' s.m).length) (catL S s ++ [(1000, rP (C7' s.m))]) := by
 have hpos : 0 < s.m.length := List.length_pos_iff.2 hne; have hkl := CL' s.m
 have q := fun F => gX' hs.ki ω (UL' hs hb) hne F
 have q1 := fun F => Z7' (CY' s.m) ω ω F
 have q2 := fun F => lPs_ok (dO S []) (fun _ => rfl) (fun _ => trivial) (o' (cat (S ++ [])).length) (o' s.b) s.m s.c (CY' s.m) (C7' s.m) (by rw [G4']; exact hkl) RC' ω ω F
 rw [hkl] at q1 q2; rw [G4']; exact aV' (dO S []) (fun _ => rfl) (o' (cat (S ++ [])).length) (o' s.b) s.m s.c s.m.length (CY' s.m) (C7' s.m) q q1 q2
theorem MC' (S : List Bs) (s : St) (hm : s.m = []) : Tri Θ default fPs [.ptr 0 0] (catL S s) nilS (catL S s) := by
 obtain ⟨m, c, b⟩ := s; simp only at hm; subst hm; exact aU' (dO S []) (fun _ => rfl) (o' (cat (S ++ [])).length) (o' b) c
noncomputable section
abbrev fGt : Nat := 12
theorem eG' (D : AO) (sz b : Int) (m : KM) (c : Nat) (k v : Δ) (F : HP) : wRun [] (A6' [(fGt, 1, 5, hv (.tuple [.agg [sv v], .lit true]))]) [] default fGt [.ptr 0 0, sv k] (catF D sz b m c) [0, 1, 2, 3] F = VT.leaf (AV.tuple [s' v,b' true]) [some (ce' [pt' 1 0,AV.map 3,z' b] 142),some (ce' [pt' 2 0,s' nmL,i' 1,z' sz] 216),some D,some (AO.map (kM m) c)] 1101 (k7'.a (((p' (findKey Tryz.prog (envW [] (A6' [(12,1,5,hv (AV.tuple [AV.agg [s' v],j']))]) [] default F) 9 (s' k) (kM m) 0 = AP.ret (B4' (s' k) (kM m) 0))).a (f' (Wk (AV.tuple [D2' (B4' (s' k) (kM m) 0) (Value.agg (Array.mk [vs' y0'])),AV.v (Value.bool (B4' (s' k) (kM m) 0).isSome)]) (AV.tuple [AV.agg [s' v],j'])))).a (h38' v k1'))) := χ
theorem eH' (D : AO) (sz b : Int) (m : KM) (c : Nat) (k : Δ) (F : HP) : wRun [] (A6' [(fGt, 1, 5, hv (.tuple [.agg [sv ⟨#[]⟩], .lit false]))]) [] default fGt [.ptr 0 0, sv k] (catF D sz b m c) [0, 1, 2, 3] F = VT.leaf (AV.tuple [s' y0',b' false]) [some (ce' [pt' 1 0,AV.map 3,z' b] 142),some (ce' [pt' 2 0,s' nmL,i' 1,z' sz] 216),some D,some (AO.map (kM m) c)] 1101 (k7'.a (((p' (findKey Tryz.prog (envW [] (A6' [(12,1,5,hv (AV.tuple [AV.agg [s' y0'],g']))]) [] default F) 9 (s' k) (kM m) 0 = AP.ret (B4' (s' k) (kM m) 0))).a (f' (Wk (AV.tuple [D2' (B4' (s' k) (kM m) 0) (Value.agg (Array.mk [vs' y0'])),AV.v (Value.bool (B4' (s' k) (kM m) 0).isSome)]) (AV.tuple [AV.agg [s' y0'],g'])))).a (k7'.a ((ee' (s' y0')).a k1')))) := χ
def kPk : List Nat := [0, 1, 1050, 1051, 1100, 1101, 1102, 1103, 1104, 1105, 1106]
theorem dC' (b : Int) (m : KM) (c : Nat) (n : Nat) (ks : List Γ) (k v : Δ) (F : HP) : AW' [] (hPs k v 0) [] default fPs (A3' fPs 2) (tms 0 26 (aPs nilS n 0)) (ctX b m c ++ [(1050, rK ks)]) kPk ixPs F = VT.leaf (AX.normal,[pt' 0 0,AV.slice 1101 0 1 2 (Cp.lo 1),AV.slice 1050 0 n 1 (Cp.lo n),i' n,i' 1],26) [some (ce' [a',AV.map 1,z' b] 142),some (AO.map (kM m) c),some (ce' (rowV keV ks) 18),none,some (ce' [s' k,s' v] 124),some (ce' [s' k,s' v] 124),none,none,none,none,none] 1102 ((k66' n).a ((k65' n).a ((k64' ks k).a (k7'.a ((k68' k v F m).a (k8'.a (k12'.a k1'))))))) := χ
theorem dB' (b : Int) (m : KM) (c : Nat) (n i : Nat) (ks : List Γ) (L : List (Δ × Δ)) (k v : Δ) (F : HP) : AW' [] (hPs k v i) [] default fPs (A3' fPs 2) (tms 0 26 (aPs (sP 1051 i) n i)) (ctX b m c ++ [(1050, rK ks), (1051, rP L)]) kPk ixPs F = VT.leaf (AX.normal,[pt' 0 0,AV.slice 1101 0 (i + 1) 2 (Cp.lo (i + 1)),AV.slice 1050 0 n 1 (Cp.lo n),i' n,i' (i + 1)],26) [some (ce' [a',AV.map 1,z' b] 142),some (AO.map (kM m) c),some (ce' (rowV keV ks) 18),none,some (ce' [s' k,s' v] 124),some (ce' (List.take (i * 2) (List.drop 0 (rowV prV L)) ++ [s' k,s' v]) 124),none,none,none,none,none] 1102 (h67' i n ks k (k7'.a ((k70' k v i F m).a ((k69' i L).a ((k2' i).a k1'))))) := χ
theorem dA' (b : Int) (m : KM) (c : Nat) (n i : Nat) (ks : List Γ) (L : List (Δ × Δ)) (F : HP) : AW' [] (A6' [hf' fPs 2 0]) [] default fPs (A3' fPs 2) (tms 0 26 (aPs (sP 1051 i) n i)) (ctX b m c ++ [(1050, rK ks), (1051, rP L)]) kPk ixPs F = VT.leaf (AX.exit 0,[pt' 0 0,AV.slice 1051 0 i 2 (Cp.lo i),AV.slice 1050 0 n 1 (Cp.lo n),i' n,i' i],26) [some (ce' [a',AV.map 1,z' b] 142),some (AO.map (kM m) c),some (ce' (rowV keV ks) 18),some (ce' (rowV prV L) 124),none,none,none,none,none,none,none] 1100 ((k31' i n).a k1') := χ
def gPk : List AV -> AP (Nat × Nat) := fun tms => match tms.getD 6 AV.undef with
 | .slice i _ _ _ _ => .read 0 fun o => match o with
  | .cells (_ :: .map m :: _) _ => .ret (m, i)
  | _ => .fail "catalog"
 | _ => .fail "keys"
def nmPk (p : Nat × Nat) (k : Nat) : Nat := match Nat.beq k 1050 with
 | true => p.2
 | false => match k with
  | 1 => p.1
  | k => k
def lPk (b : Int) (m : KM) (c : Nat) (n : Nat) (ks : List Γ) (ps : List (Δ × Δ)) : List AV -> AP (AX × List AV) := mkL gPk (fun _ => True) nmPk (fun _ => tms 0 26 (aPs nilS n 0)) (fun _ => ctX b m c ++ [(1050, rK ks)]) (fun _ => .leaf (.exit 0) (tms 0 26 [(2, sP 1051 n)]) (ctX b m c ++ [(1050, rK ks), (1051, rP ps)]))
def cSoW (m : KM) (ck n : Nat) (ks : List Γ) : List AV -> Option (AP AV) := mkC gSo (fun _ => True) (fun i k => match k with | 0 => i | 1 => 1 | k => k) (fun _ => [.func (.func fKe) [] [.ptr 0 0]]) (fun _ => oSk tMp m ck) (fun _ => .leaf .ret [sS 1000 n] (oSk tMp m ck ++ [(1000, rK ks)]))
def cSoV (ck : Nat) : List AV -> Option (AP AV) := mkC gSo (fun _ => True) (fun i k => match k with | 0 => i | 1 => 1 | k => k) (fun _ => [.func (.func fKe) [] [.ptr 0 0]]) (fun _ => oSk tMp [] ck) (fun _ => .leaf .ret [nilS] (oSk tMp [] ck))
abbrev k72' (q0 : Int) : Cnd := (ow' (ce' [a',AV.map 1,z' q0] 142))
theorem d9' (b : Int) (m : KM) (c : Nat) (n : Nat) (ks : List Γ) (ps : List (Δ × Δ)) (F : HP) : wRun [(fSo, cSoW m c n ks)] BA' [(fKs, 2, A3' fKs 2, lKy n ks), (fPs, 2, A3' fPs 2, lPk b m c n ks ps)] default fPs [.ptr 0 0] (ctX b m c) kPk F = VT.leaf (AV.slice 1105 0 n 2 (Cp.lo n)) [some (ce' [a',AV.map 1,z' b] 142),some (AO.map (renE (sgN (nmPk (1,1103)) [1050,1051] 1104) (kM m)) c),none,none,some (ce' [AV.map 1] 130),none,some (ce' (AV.rens (sgN (nmKy 1101) [1050,1051] 1102) (rowV keV ks)) 18),none,some (ce' (AV.rens (sgN (nmPk (1,1103)) [1050,1051] 1104) (rowV keV ks)) 18),some (ce' (AV.rens (sgN (nmPk (1,1103)) [1050,1051] 1104) (rowV prV ps)) 124),none] 1106 (((fe' true).a (((Cnd.p True).a ((vw' [AV.func (Fn.func 64) [] [pt' 1100 0]]).a ((ow' (ce' [AV.map 1] 130)).a (f' (OW (AO.map (kM m) c) (AO.map (renE (fun k => match k with | 0 => 1100 | 1 => 1 | k => k) (kM m)) c)))))).a ((p' ((fKs,2,A3' fKs 2,lKy n ks).snd.snd.fst = (fKs,2,A3' fKs 2,lKy n ks).snd.snd.fst)).a ((Cnd.p True).a ((p' (VW (pt' 0 0::s' y0'::u'::u'::e'::u'::u'::pt' 0 0::pt' 0 0::pt' 0 1::AV.map 1::AV.func (Fn.func 64) [] [pt' 1100 0]::AV.slice 1101 0 n 1 (Cp.lo n)::z' ↑n::i' 0::ru8 (ru4 ([]))) (a'::s' z0::a'::a'::e'::ra4 (a'::a'::a'::AV.slice 1101 0 n 1 (Cp.lo n)::i' n::i' 0::ra8 (ra4 ([])))))).a (f' (OW (ce' (AV.rens (sgN (fun k => match k with | 0 => 1100 | 1 => 1 | k => k) [1000] 1101) (rowV keV ks)) 18) (ce' (AV.rens (nmKy 1101) (rowV keV ks)) 18)))))))).a ((p' ((fPs,2,A3' fPs 2,lPk b m c n ks ps).snd.snd.fst = (fPs,2,A3' fPs 2,lPk b m c n ks ps).snd.snd.fst)).a (k4'.a ((k71' 1103 n).a ((k72' b).a ((p' (OW (AO.map (renE (sgN (fun k => match k with | 0 => 1100 | 1 => 1 | k => k) [1000] 1101) (kM m)) c) (AO.map (renE (nmPk (1,1103)) (kM m)) c))).a ((p' (OW (ce' (AV.rens (sgN (nmKy 1101) [1050,1051] 1102) (rowV keV ks)) 18) (ce' (AV.rens (nmPk (1,1103)) (rowV keV ks)) 18))).a k1'))))))) := χ
theorem d8' (b : Int) (c : Nat) (F : HP) : wRun [(fSo, cSoV c)] (A6' [hf' fKs 2 0, hf' fPs 2 0]) [] default fPs [.ptr 0 0] (ctX b [] c) kPk F = VT.leaf (e') [some (ce' [a',AV.map 1,z' b] 142),some (AO.map [] c),none,none,some (ce' [AV.map 1] 130),none,none,none,none,none,none] 1101 (((fe' true).a (((Cnd.p True).a ((vw' [AV.func (Fn.func 64) [] [pt' 1100 0]]).a ((ow' (ce' [AV.map 1] 130)).a (f' (OW (AO.map [] c) (AO.map [] c)))))).a ((f' (Wk (b' false) g')).a t'))).a (k5'.a k1')) := χ
end
end Go.Proofs.YtnnojnlejlokhaaGreatDoor.Wk
namespace Go.Proofs.YtnnojnlejlokhaaGreatDoor.Eng
open Go Go.RowKit Tree
variable {W w : World}
def frzW (W w : World) (D : Nat -> Prop) : World := { w with heap := Array.ofFn (n := max W.heap.size w.heap.size) fun b => by classical exact if D b then (w.heap[b.1]?).getD (.map #[] 0) else (W.heap[b.1]?).getD (.map #[] 0) }
theorem LQ' {D : Nat -> Prop} {b : Nat} (hb : b < max W.heap.size w.heap.size) : (frzW W w D).heap[b]? = some (by classical exact if D b then (w.heap[b]?).getD (.map #[] 0) else (W.heap[b]?).getD (.map #[] 0)) := by
 simp only [frzW, Array.getElem?_ofFn, hb, dif_pos]
theorem Q7' {D : Nat -> Prop} {a : Addr} (hD : D a.block) (hlt : a.block < w.heap.size) : (frzW W w D).cell? a = w.cell? a := by
 have h := LQ' (W := W) (w := w) (D := D) (b := a.block) ω; rw [if_pos hD, Array.getElem?_eq_getElem hlt] at h; simp only [World.cell?, h, Array.getElem?_eq_getElem hlt, Option.getD_some]
theorem RN' {D : Nat -> Prop} {a : Addr} (hD : ¬ D a.block) : (frzW W w D).cell? a = W.cell? a := by
 by_cases hb : a.block < max W.heap.size w.heap.size
 ·have h := LQ' (W := W) (w := w) (D := D) (b := a.block) hb; rw [if_neg hD] at h; simp only [World.cell?, h]
  cases hW : W.heap[a.block]? with
  | none => simp
  | some o => simp
 ·have h1 : (frzW W w D).heap[a.block]? = none := by
   apply Array.getElem?_eq_none; simp only [frzW, Array.size_ofFn]; omega
  have h2 : W.heap[a.block]? = none := Array.getElem?_eq_none ω; simp only [World.cell?, h1, h2]
def frzF (F : HP) (w : World) (Dk : Nat -> Prop) (hk : ∀ b, Dk b -> b < w.heap.size) : HP where
 on D w' := ∃ D0, F.on D0 w' /\ (∀ b, D b ↔ D0 b \/ Dk b) /\ (∀ b, Dk b -> ¬ D0 b) /\ ∀ b, Dk b -> w'.heap[b]? = w.heap[b]?
 far {D w1 w2} hf := fun ⟨D0, h1, h2, h3, h4⟩ => ⟨D0, F.far (fun b hb => hf b ((h2 b).2 (.inl hb))) h1, h2, h3, fun b hb => (hf b ((h2 b).2 (.inr hb))).trans (h4 b hb)⟩
 lt {D w1} := fun ⟨D0, h1, h2, h3, h4⟩ b hb => by
  rcases (h2 b).1 hb with hb | hb
  ·exact F.lt h1 b hb
  ·have := h4 b hb; rw [Array.getElem?_eq_getElem (hk b hb)] at this; exact (Array.getElem?_eq_some_iff.1 this).1
theorem TN' {P : Program} {f : FuncId} {A : List AV} {H1 H1' : LH} {v : AV} {PR : Mem -> Prop} (k : Nat) (hk : 1000 <= k /\ k < 1100) (hk1 : getO H1 k = none) (hk1' : getO H1' k = none) (hl : AA' 1100 H1 = true) (hl' : AA' 1100 H1' = true)
  (hA : AV.cls (fun n => Nat.blt n 1000 || (getO H1 n).isSome) A) (hH : ∀ x ∈ H1, x.2.cl (fun n => Nat.blt n 1000 || (getO H1 n).isSome))
  (hm : ∀ C C' : Mem, (∀ a v, C a = some v -> C' a = some v) -> PR C -> PR C')
  (h : ∀ W' : World, (∀ a v, W.cell? a = some v -> W'.cell? a = some v) -> PR W'.cell? -> Tri P W' f A H1 v H1') : Tri P W f A (H1 ++ [(k, .any (frz PR))]) v (H1' ++ [(k, .any (frz PR))]) := by
 have hlk : AA' 1100 [(k, AO.any (frz PR))] = true := by simp only [AA', List.all_cons, List.all_nil, Bool.and_true, Nat.blt_eq]; exact hk.2
 have e1 : ∀ (G : LH) (i : Nat), i ≠ k -> getO (G ++ [(k, AO.any (frz PR))]) i = getO G i := fun G i hi => by
  rw [BE']
  cases getO G i with
  | some o => rfl
  | none => simp only [getO, if_neg hi]
 have e2 : ∀ (G : LH), getO G k = none -> getO (G ++ [(k, AO.any (frz PR))]) k = some (.any (frz PR)) := fun G hG => by
  rw [BE', hG]; simp [getO]
 intro W0 F N w vargs hF hNB r ha; have hfA : ∀ i, (AK' (H1 ++ [(k, .any (frz PR))])).find i = getO (H1 ++ [(k, .any (frz PR))]) i := AE' (D7' (C5' hl hlk)); have hfA' : ∀ i, (AK' (H1' ++ [(k, .any (frz PR))])).find i = getO (H1' ++ [(k, .any (frz PR))]) i := AE' (D7' (C5' hl' hlk)); have hf1 : ∀ i, (AK' H1).find i = getO H1 i := AE' (D7' hl); have hf1' : ∀ i, (AK' H1').find i = getO H1' i := AE' (D7' hl'); obtain ⟨D0, D, h1, h2, h3⟩ := r.sat; obtain ⟨⟨hP, hlt⟩, hdis⟩ := h2 k _ (by rw [hfA, e2 H1 hk1])
 have hW : ∀ a v, W.cell? a = some v -> (frzW W w (D k)).cell? a = some v := fun a v hv => by
  by_cases hD : D k a.block
  ·rw [Q7' hD (hlt _ hD)]; exact hF D0 w h1 a v hv
  ·rw [RN' hD]; exact hv
 have hPW : PR (frzW W w (D k)).cell? := hm _ _ (fun a v hv => by
  obtain ⟨q1, q2⟩ := GH' hv
  rw [Q7' q1 (hlt _ q1)]; exact q2) hP
 have hOld : AH' (frzW W w (D k)) (frzF F w (D k) hlt) := fun D1 w1 ⟨D2, q1, q2, q3, q4⟩ a v hv => by
  by_cases hD : D k a.block
  ·rw [Q7' hD (hlt _ hD)] at hv; rw [<- hv]; exact RY' (q4 _ hD)
  ·rw [RN' hD] at hv; exact hF D2 w1 q1 a v hv
 have hne : ∀ i o, getO H1 i = some o -> i ≠ k := fun i o hi e => by rw [e, hk1] at hi; cases hi
 have r1 : Rep W0 N (frzF F w (D k) hlt) (AK' H1) w := ⟨r.os, r.tape, r.output, fun b => D0 b \/ D k b, D, ⟨D0, h1, fun b => Iff.rfl, hdis, fun b _ => rfl⟩, fun i o hi => by
   rw [hf1] at hi; obtain ⟨q1, q2⟩ := h2 i o (by rw [hfA, e1 H1 i (hne i o hi)]; exact hi)
   exact ⟨q1, fun b hb hb' => hb'.elim (q2 b hb) (h3 i k o _ (by rw [hfA, e1 H1 i (hne i o hi)]; exact hi) (by rw [hfA, e2 H1 hk1]) (hne i o hi) b hb)⟩, fun i j o o' hi hj hij => by
   rw [hf1] at hi hj
   exact h3 i j o o' (by rw [hfA, e1 H1 i (hne i o hi)]; exact hi) (by rw [hfA, e1 H1 j (hne j o' hj)]; exact hj) hij⟩
 obtain ⟨N1, g1, g2, g3, g4⟩ := H3' (N := N) hl (fun _ _ => rfl) r1 ha hA hH; refine (h (frzW W w (D k)) hW hPW W0 (frzF F w (D k) hlt) N1 w vargs hOld g2 g3 g4).mono ?_; rintro e w' ⟨y, rfl, N2, p1, p2, p3, p4⟩
 refine ⟨y, rfl, N2, fun i hi => (p1 i hi).trans (g1 i hi), fun i hi hn => p2 i hi ?_, ?_, p4⟩
 ·by_cases hik : i = k
  ·rw [hik]; exact hk1'
  ·rw [e1 H1' i hik] at hn; exact hn
 ·obtain ⟨B0, B, ⟨C0, q1, q2, q3, q4⟩, k2, k3⟩ := p3.sat
  have hne' : ∀ i o, getO H1' i = some o -> i ≠ k := fun i o hi e => by rw [e, hk1'] at hi; cases hi
  have key : ∀ i o, i ≠ k -> getO (H1' ++ [(k, AO.any (frz PR))]) i = some o -> (AK' H1').find i = some o := fun i o hik hi => by
   rw [hf1']; rw [e1 H1' i hik] at hi; exact hi
  refine ⟨p3.os, p3.tape, p3.output, C0, fun i b => if i = k then D k b else B i b, q1, fun i o hi => ?_, fun i j o o' hi hj hij b hbi hbj => ?_⟩
  ·rw [hfA'] at hi
   by_cases hik : i = k
   ·subst hik; rw [e2 H1' hk1'] at hi; cases hi; simp only [if_true]
    refine ⟨⟨?_, fun b hb => ?_⟩, q3⟩
    ·rw [O0' (w := w) q4]; exact hP
    ·have := q4 b hb; rw [Array.getElem?_eq_getElem (hlt b hb)] at this; exact (Array.getElem?_eq_some_iff.1 this).1
   ·simp only [if_neg hik]; obtain ⟨q5, q6⟩ := k2 i o (key i o hik hi)
    exact ⟨q5, fun b hb hb' => q6 b hb ((q2 b).2 (.inl hb'))⟩
  ·rw [hfA'] at hi hj
   by_cases hik : i = k
   ·have hjk : j ≠ k := fun e => hij (hik.trans e.symm)
    simp only [if_pos hik] at hbi; simp only [if_neg hjk] at hbj; exact (k2 j o' (key j o' hjk hj)).2 b hbj ((q2 b).2 (.inr hbi))
   ·simp only [if_neg hik] at hbi
    by_cases hjk : j = k
    ·simp only [if_pos hjk] at hbj; exact (k2 i o (key i o hik hi)).2 b hbi ((q2 b).2 (.inr hbj))
    ·simp only [if_neg hjk] at hbj; exact k3 i j o o' (key i o hik hi) (key j o' hjk hj) hij b hbi hbj
end Go.Proofs.YtnnojnlejlokhaaGreatDoor.Eng
namespace Go.Proofs.YtnnojnlejlokhaaGreatDoor.Wk
open Go Go.RowKit Eng Kit Tree
open Int renaming ofNat -> o'
open Go.Value renaming string -> vs'
open Go.Value renaming int -> vi'
open AO renaming cells -> ce'
open AV renaming v -> v'
open AV renaming ptr -> pt'
open Go.IntKind renaming i64 -> I'
open Cnd renaming holds -> ch'
open Nat renaming blt_eq -> bl'
open List renaming length_append -> la'
open Go.Value renaming slice -> sl'
variable {W : World}
noncomputable section
abbrev fCr : Nat := 14
abbrev tFt : TypeId := 2 * 38
abbrev tAf : TypeId := 2 * 82
def stW (at' : Nat) (a : Addr) (m c : Nat) : AO := .cells [sv nm1, iv (o' at'), slV (some a) m c] tPw
structure Dp where
 us : Int
 p : Nat
 q : Nat
 da : Bs
 sa : Bs
 V : List Value
 z : Nat
 ok : Option Addr
 nk : Nat
 ck : Nat
 tr : Int
def oC0 (us : Int) (p q : Nat) (da sa : Bs) (V : List Value) (z : Nat) (ok : Option Addr) (nk ck : Nat) (tr : Int) : LH := [(0, dkC (pV z) us), (1001, mpO mSt mCk), (1002, fiC p q), (1003, rB da), (1004, rB sa), (1005, .cells (vmap V) tPw), (1010, .cells [slV ok nk ck, iv tr] tFt)]
def lfM (x : AV) : AO := .map [(sv nm1, x, 0)] 1
def aPd (a : Addr) (q c n z i : Nat) : List (Nat × AV) := [(0, .ptr 0 0), (3, .ptr 1010 0), (4, nilS), (5, .map 1011), (9, .ptr 1013 0), (10, slV (some a) q c), (11, .slice 1012 0 n 1 (.lo n)), (35, pV z), (36, iv (o' z)), (37, iv (o' i))]
def oPd (at' : Nat) (a : Addr) (m c : Nat) (b : Bs) : LH := [(1011, lfM .any), (1012, rB b), (1013, stW at' a m c)]
def kPd : List Nat := [0, 1001, 1002, 1003, 1004, 1005, 1010, 1011, 1012, 1013, 1100, 1101, 1102, 1103]
abbrev k73' (q0 q1 : Nat) : Cnd := (f' (Wk (z' (IntKind.i64.wrap (o' q0 + ↑q1))) (i' (q0 + q1))))
abbrev k74' (q0 : Nat) : Cnd := (ee' (i' q0))
theorem dD' (W : World) (us tr : Int) (pp qq z i nk ck : Nat) (ok : Option Addr) (da sa : Bs) (V : List Value) (at' q m c0 c n : Nat) (a : Addr) (b : Bs) (F : HP) : AW' [] (A6' [(fCr, 14, 6, hv (iv (o' (at' + q)))), ht' fCr 14 7]) [] W fCr (A3' fCr 14) (tms 0 120 (aPd a q c n z i)) (oC0 us pp qq da sa V z ok nk ck tr ++ oPd at' a m c0 b) kPd [0, 3, 4, 5, 9, 10, 11, 35, 36, 37] F = VT.leaf (AX.normal,[pt' 0 0,pt' 1010 0,e',AV.map 1011,pt' 1013 0,v' (sl' (some a) q c),AV.slice 1101 0 (n + 1) 1 (Cp.lo (n + 1)),AV.slice 1005 0 z 3 (Cp.lo z),i' z,i' i],120) [some (ce' [AV.map 1001,AV.slice 1005 0 z 3 (Cp.lo z),i' 1099511627776,z' us] 160),some (AO.map [(s' nm1,pt' 1002 0,0)] 1),some (ce' [AV.slice 1003 0 pp 1 (Cp.lo pp),AV.slice 1004 0 qq 1 (Cp.lo qq)] 174),some (ce' (rowV encB da) 10),some (ce' (rowV encB sa) 10),some (ce' (vmap V) 180),some (ce' [v' (sl' ok nk ck),z' tr] 76),some (AO.map [(s' nm1,a',0)] 1),none,some (ce' [s' nm1,i' at',v' (sl' (some a) m c0)] 180),some (ce' [v' (vi' IntKind.u8 (o' 0))] 10),some (ce' (List.take (n * 1) (List.drop 0 (rowV encB b)) ++ [v' (vi' IntKind.u8 (o' 0))]) 10),none,none] 1102 ((k74' at').a ((k73' at' q).a ((wb' (decide (↑n < o' (at' + q))) j').a ((tt'.a (tt'.a (tt'.a (tt'.a ((p' ((0 + n * 1).ble (rowV encB b).length = true)).a ((p' (((n + 1) * 1).ble 140737488355328 = true)).a ((p' ((n + 1).ble 9223372036854775807 = true)).a (f' ((List.take (n * 1) (List.drop 0 (rowV encB b))).length.beq (n * 1) = true))))))))).a k1')))) := χ
theorem dE' (W : World) (us tr : Int) (pp qq z i nk ck : Nat) (ok : Option Addr) (da sa : Bs) (V : List Value) (at' q m c0 c n : Nat) (a : Addr) (b : Bs) (F : HP) : AW' [] (A6' [(fCr, 14, 6, hv (iv (o' (at' + q)))), hf' fCr 14 7]) [] W fCr (A3' fCr 14) (tms 0 120 (aPd a q c n z i)) (oC0 us pp qq da sa V z ok nk ck tr ++ oPd at' a m c0 b) kPd [0, 3, 4, 5, 9, 10, 11, 35, 36, 37] F = VT.leaf (AX.exit 4,[pt' 0 0,pt' 1010 0,e',AV.map 1011,pt' 1013 0,v' (sl' (some a) q c),AV.slice 1012 0 n 1 (Cp.lo n),AV.slice 1005 0 z 3 (Cp.lo z),i' z,i' i],120) [some (ce' [AV.map 1001,AV.slice 1005 0 z 3 (Cp.lo z),i' 1099511627776,z' us] 160),some (AO.map [(s' nm1,pt' 1002 0,0)] 1),some (ce' [AV.slice 1003 0 pp 1 (Cp.lo pp),AV.slice 1004 0 qq 1 (Cp.lo qq)] 174),some (ce' (rowV encB da) 10),some (ce' (rowV encB sa) 10),some (ce' (vmap V) 180),some (ce' [v' (sl' ok nk ck),z' tr] 76),some (AO.map [(s' nm1,a',0)] 1),some (ce' (rowV encB b) 10),some (ce' [s' nm1,i' at',v' (sl' (some a) m c0)] 180),none,none,none,none] 1100 ((k74' at').a ((k73' at' q).a ((wb' (decide (↑n < o' (at' + q))) g').a k1'))) := χ
def aCr (z i : Nat) : List (Nat × AV) := [(0, .ptr 0 0), (3, .ptr 1010 0), (4, nilS), (5, .map 1011), (35, pV z), (36, iv (o' z)), (37, iv (o' i))]
def oCr (n : Nat) (b : Bs) : LH := [(1011, lfM (sB 1012 n)), (1012, rB b)]
def kCr : List Nat := [0, 1001, 1002, 1003, 1004, 1005, 1010, 1011, 1012, 1100, 1101, 1102, 1103, 1104, 1105, 1106, 1107, 1108, 1109, 1110, 1111]
def h8 (at' : Nat) (a : Addr) (m c i : Nat) : List (FuncId × Nat × Nat × Hint) := [ht' fCr 7 0, (fCr, 8, 2, hv (.agg [sv nm1, iv (o' at'), slV (some a) m c])), (fCr, 18, 0, hv (iv (o' (i + 1))))]
def ixC : List Nat := [0, 3, 4, 5, 35, 36, 37]
def lPd (us tr : Int) (pp qq z i nk ck : Nat) (ok : Option Addr) (da sa : Bs) (V : List Value) (at' q m c0 c n n' : Nat) (a : Addr) (b b' : Bs) : List AV -> AP (AX × List AV) := mkL (fun tmps => match tmps.getD 9 .any with | .ptr i 0 => .ret i | _ => .fail "pad") (fun _ => True) (fun j k => match Nat.beq k 1013 with | true => j | false => k) (fun _ => tms 0 120 (aPd a q c n z i)) (fun _ => oC0 us pp qq da sa V z ok nk ck tr ++ oPd at' a m c0 b) (fun _ => .leaf (.exit 4) (tms 0 120 (aPd a q c n' z i)) (oC0 us pp qq da sa V z ok nk ck tr ++ oPd at' a m c0 b'))
theorem f0' (W : World) (us tr : Int) (pp qq z i nk ck : Nat) (ok : Option Addr) (da sa : Bs) (V : List Value) (n : Nat) (b : Bs) (F : HP) : AW' [] (A6' [hf' fCr 7 0]) [] W fCr (A3' fCr 7) (tms 0 120 (aCr z i)) (oC0 us pp qq da sa V z ok nk ck tr ++ oCr n b) kCr ixC F = VT.leaf (AX.exit 2,[pt' 0 0,pt' 1010 0,e',AV.map 1011,AV.slice 1005 0 z 3 (Cp.lo z),i' z,i' i],120) [some (ce' [AV.map 1001,AV.slice 1005 0 z 3 (Cp.lo z),i' 1099511627776,z' us] 160),some (AO.map [(s' nm1,pt' 1002 0,0)] 1),some (ce' [AV.slice 1003 0 pp 1 (Cp.lo pp),AV.slice 1004 0 qq 1 (Cp.lo qq)] 174),some (ce' (rowV encB da) 10),some (ce' (rowV encB sa) 10),some (ce' (vmap V) 180),some (ce' [v' (sl' ok nk ck),z' tr] 76),some (AO.map [(s' nm1,AV.slice 1012 0 n 1 (Cp.lo n),0)] 1),some (ce' (rowV encB b) 10),none,none,none,none,none,none,none,none,none,none,none,none] 1100 ((k31' i z).a k1') := χ
theorem f3' (W : World) (us tr : Int) (pp qq z i nk ck : Nat) (ok : Option Addr) (da sa : Bs) (V : List Value) (at' m c n : Nat) (a : Addr) (b : Bs) (F : HP) : AW' [] (A6' (h8 at' a m c i ++ [ht' fCr 9 4, ht' fCr 9 12])) [] W fCr (A3' fCr 7) (tms 0 120 (aCr z i)) (oC0 us pp qq da sa V z ok nk ck tr ++ oCr n b) kCr ixC F = VT.leaf (AX.normal,[pt' 0 0,pt' 1010 0,e',AV.map 1011,AV.slice 1005 0 z 3 (Cp.lo z),i' z,i' (i + 1)],120) [some (ce' [AV.map 1001,AV.slice 1005 0 z 3 (Cp.lo z),i' 1099511627776,z' us] 160),some (AO.map [(s' nm1,pt' 1002 0,0)] 1),some (ce' [AV.slice 1003 0 pp 1 (Cp.lo pp),AV.slice 1004 0 qq 1 (Cp.lo qq)] 174),some (ce' (rowV encB da) 10),some (ce' (rowV encB sa) 10),some (ce' (vmap V) 180),some (ce' [v' (sl' ok nk ck),z' tr] 76),some (AO.map [(s' nm1,AV.slice 1012 0 n 1 (Cp.lo n),0)] 1),some (ce' (rowV encB b) 10),some (ce' [s' nm1,i' at',v' (sl' (some a) m c)] 180),none,none,none,none,none,none,none,none,none,none,none] 1101 ((wb' (decide (o' i < o' z)) j').a ((f' (i.blt z = true)).a (((p' ((List.take 3 (List.drop (0 + i * 3) (vmap V))).length.beq 3 = true)).a ((p' (List.take 3 (List.drop (0 + i * 3) (vmap V)) = [v' (vs' ((List.take 3 (List.drop (0 + i * 3) (vmap V))).getD 0 (u')).strOf),v' (vi' I' ((List.take 3 (List.drop (0 + i * 3) (vmap V))).getD 1 (u')).intOf),(List.take 3 (List.drop (0 + i * 3) (vmap V))).getD 2 (u')])).a (f' (Wk (AV.agg [v' (vs' ((List.take 3 (List.drop (0 + i * 3) (vmap V))).getD 0 (u')).strOf),v' (vi' I' ((List.take 3 (List.drop (0 + i * 3) (vmap V))).getD 1 (u')).intOf),(List.take 3 (List.drop (0 + i * 3) (vmap V))).getD 2 (u')]) (AV.agg [s' nm1,i' at',v' (sl' (some a) m c)]))))).a (k7'.a (k7'.a ((wb' (decide (o' i >= ↑nk)) j').a (k62'.a ((k2' i).a k1')))))))) := χ
theorem eY' (W : World) (us tr : Int) (pp qq z i nk ck : Nat) (ak : Addr) (da sa : Bs) (V : List Value) (at' m c n : Nat) (a : Addr) (b : Bs) (F : HP) : AW' [] (A6' (h8 at' a m c i ++ [hf' fCr 9 4, hf' fCr 9 10, ht' fCr 9 11, ht' fCr 9 12])) [] W fCr (A3' fCr 7) (tms 0 120 (aCr z i)) (oC0 us pp qq da sa V z (some ak) nk ck tr ++ oCr n b) kCr ixC F = VT.leaf (AX.normal,[pt' 0 0,pt' 1010 0,e',AV.map 1011,AV.slice 1005 0 z 3 (Cp.lo z),i' z,i' (i + 1)],120) [some (ce' [AV.map 1001,AV.slice 1005 0 z 3 (Cp.lo z),i' 1099511627776,z' us] 160),some (AO.map [(s' nm1,pt' 1002 0,0)] 1),some (ce' [AV.slice 1003 0 pp 1 (Cp.lo pp),AV.slice 1004 0 qq 1 (Cp.lo qq)] 174),some (ce' (rowV encB da) 10),some (ce' (rowV encB sa) 10),some (ce' (vmap V) 180),some (ce' [v' (sl' (some ak) nk ck),z' tr] 76),some (AO.map [(s' nm1,AV.slice 1012 0 n 1 (Cp.lo n),0)] 1),some (ce' (rowV encB b) 10),some (ce' [s' nm1,i' at',v' (sl' (some a) m c)] 180),none,none,none,none,none,none,none,none,none,none,none] 1101 ((wb' (decide (o' i < o' z)) j').a ((f' (i.blt z = true)).a (((p' ((List.take 3 (List.drop (0 + i * 3) (vmap V))).length.beq 3 = true)).a ((p' (List.take 3 (List.drop (0 + i * 3) (vmap V)) = [v' (vs' ((List.take 3 (List.drop (0 + i * 3) (vmap V))).getD 0 (u')).strOf),v' (vi' I' ((List.take 3 (List.drop (0 + i * 3) (vmap V))).getD 1 (u')).intOf),(List.take 3 (List.drop (0 + i * 3) (vmap V))).getD 2 (u')])).a (f' (Wk (AV.agg [v' (vs' ((List.take 3 (List.drop (0 + i * 3) (vmap V))).getD 0 (u')).strOf),v' (vi' I' ((List.take 3 (List.drop (0 + i * 3) (vmap V))).getD 1 (u')).intOf),(List.take 3 (List.drop (0 + i * 3) (vmap V))).getD 2 (u')]) (AV.agg [s' nm1,i' at',v' (sl' (some a) m c)]))))).a (k7'.a (k7'.a ((wb' (decide (o' i >= ↑nk)) g').a (k7'.a ((f' (i.blt nk = true)).a (((p' ((W.cell? (ak.add (i * 1))).isSome = true)).a ((p' ((v' ((W.cell? (ak.add (i * 1))).getD (Value.tuple (Array.mk [])))).bool? = some (v' ((W.cell? (ak.add (i * 1))).getD (Value.tuple (Array.mk [])))).boolOf)).a (f' (Wk (v' (Value.bool (v' ((W.cell? (ak.add (i * 1))).getD (Value.tuple (Array.mk [])))).boolOf)) g')))).a (k22'.a (k62'.a ((k2' i).a k1')))))))))))) := χ
def h9 : List (FuncId × Nat × Nat × Hint) := [hf' fCr 9 4, ht' fCr 9 10, hf' fCr 9 11, hf' fCr 9 12, (fCr, 13, 4, ho 1011 (lfM .any))]
abbrev h75' (q0 q1 q2 : Nat) (q3 : World) (q4 : Addr) (q5 q6 q7 q8 q9 q10 q11 q12 q13 q14 q15 : Nat) (q16 : Bs) (z : Cnd) : Cnd := ((ee' (i' q0)).a (((p' (q0.ble q1 = true)).a ((p' (q1.ble q1 = true)).a (f' (q1.ble q1 = true)))).a (((p' ((q2.min (q1 - q0)).ble q2 = true)).a ((p' (((List.range (q2.min (q1 - q0) * 1)).all fun j => (q3.cell? (q4.add j)).isSome) = true)).a ((p' ((vmap (AM' q3 q4 (q2.min (q1 - q0) * 1))).all AV.one = true)).a (f' ((0 + q0 * 1 + (vmap (AM' q3 q4 (q2.min (q1 - q0) * 1))).length).ble (AV.rens (sgN (fun k => match k.beq q5 with | true => q6 | false => k) [q7,q8,q9,q10,q11,q12,q13,q14,q5] q15) (rowV encB q16)).length = true))))).a ((ee' (s' nm1)).a z))))
abbrev h76' (q0 q1 q2 : Nat) (q3 : Int) (q4 q5 q6 q7 q8 : Nat) (q9 : Bs) (q10 q11 : Nat) (q12 : Bs) (q13 : List Value) (q14 : Addr) (q15 q16 : Nat) (q17 : Int) (q18 : Bs) (q19 : Nat) (q20 : Addr) (q21 q22 : Nat) (z : Cnd) : Cnd := ((ow' (ce' [AV.map q0,AV.slice q1 0 q2 3 (Cp.lo q2),i' 1099511627776,z' q3] 160)).a ((ow' (AO.map [(s' nm1,pt' q4 0,0)] 1)).a ((ow' (ce' [AV.slice q5 0 q6 1 (Cp.lo q6),AV.slice q7 0 q8 1 (Cp.lo q8)] 174)).a ((p' (OW (ce' (rowV encB q9) 10) (ce' (AV.rens (fun k => match k.beq q10 with | true => q11 | false => k) (rowV encB q9)) 10))).a ((p' (OW (ce' (rowV encB q12) 10) (ce' (AV.rens (fun k => match k.beq q10 with | true => q11 | false => k) (rowV encB q12)) 10))).a ((p' (OW (ce' (vmap q13) 180) (ce' (AV.rens (fun k => match k.beq q10 with | true => q11 | false => k) (vmap q13)) 180))).a ((ow' (ce' [v' (sl' (some q14) q15 q16),z' q17] 76)).a ((ow' (AO.map [(s' nm1,a',0)] 1)).a ((p' (OW (ce' (rowV encB q18) 10) (ce' (AV.rens (fun k => match k.beq q10 with | true => q11 | false => k) (rowV encB q18)) 10))).a ((ow' (ce' [s' nm1,i' q19,v' (sl' (some q20) q21 q22)] 180)).a z))))))))))
abbrev k77' (q0 q1 : Nat) : Cnd := (f' (OW (AO.map [(s' nm1,AV.slice q0 0 q1 1 (Cp.lo q1),0)] 1) (AO.map [(s' nm1,a',0)] 1)))
abbrev k78' : Cnd := (f' (Wk g' g'))
abbrev h79' (q0 q1 : Nat) (q2 : List Value) (q3 : Nat) (q4 : Addr) (q5 q6 q7 : Nat) (q8 : World) (q9 : Addr) (z : Cnd) : Cnd := ((wb' (decide (o' q0 < o' q1)) j').a ((f' (q0.blt q1 = true)).a (((p' ((List.take 3 (List.drop (0 + q0 * 3) (vmap q2))).length.beq 3 = true)).a ((p' (List.take 3 (List.drop (0 + q0 * 3) (vmap q2)) = [v' (vs' ((List.take 3 (List.drop (0 + q0 * 3) (vmap q2))).getD 0 (u')).strOf),v' (vi' I' ((List.take 3 (List.drop (0 + q0 * 3) (vmap q2))).getD 1 (u')).intOf),(List.take 3 (List.drop (0 + q0 * 3) (vmap q2))).getD 2 (u')])).a (f' (Wk (AV.agg [v' (vs' ((List.take 3 (List.drop (0 + q0 * 3) (vmap q2))).getD 0 (u')).strOf),v' (vi' I' ((List.take 3 (List.drop (0 + q0 * 3) (vmap q2))).getD 1 (u')).intOf),(List.take 3 (List.drop (0 + q0 * 3) (vmap q2))).getD 2 (u')]) (AV.agg [s' nm1,i' q3,v' (sl' (some q4) q5 q6)]))))).a ((fe' true).a ((fe' true).a ((wb' (decide (o' q0 >= ↑q7)) g').a ((fe' true).a ((f' (q0.blt q7 = true)).a (((p' ((q8.cell? (q9.add (q0 * 1))).isSome = true)).a ((p' ((v' ((q8.cell? (q9.add (q0 * 1))).getD (Value.tuple (Array.mk [])))).bool? = some (v' ((q8.cell? (q9.add (q0 * 1))).getD (Value.tuple (Array.mk [])))).boolOf)).a (f' (Wk (v' (Value.bool (v' ((q8.cell? (q9.add (q0 * 1))).getD (Value.tuple (Array.mk [])))).boolOf)) j')))).a ((f' (Wk (b' false) g')).a ((f' (Wk g' g')).a ((fe' true).a ((fe' true).a z)))))))))))))
theorem f2' (W : World) (us tr : Int) (pp qq z i nk ck : Nat) (ak : Addr) (da sa : Bs) (V : List Value) (at' m c n n' : Nat) (a : Addr) (b b' : Bs) (F : HP) : AW' [] (A6' (h8 at' a m c i ++ (h9 ++ [hf' fCr 11 7, hf' fCr 11 12]))) [(fCr, 14, A3' fCr 14, lPd us tr pp qq z i nk ck (some ak) da sa V at' m m c c n n' a b b')] W fCr (A3' fCr 7) (tms 0 120 (aCr z i)) (oC0 us pp qq da sa V z (some ak) nk ck tr ++ oCr n b) kCr ixC F = VT.leaf (AX.normal,[pt' 0 0,pt' 1106 0,e',AV.map 1107,AV.slice 1105 0 z 3 (Cp.lo z),i' z,i' (i + 1)],120) [some (ce' [AV.map 1101,AV.slice 1105 0 z 3 (Cp.lo z),i' 1099511627776,z' us] 160),none,none,none,none,none,none,none,none,none,some (AO.map [(s' nm1,pt' 1102 0,0)] 1),some (ce' [AV.slice 1103 0 pp 1 (Cp.lo pp),AV.slice 1104 0 qq 1 (Cp.lo qq)] 174),some (ce' (AV.rens (sgN (fun k => match k.beq 1013 with | true => 1100 | false => k) [1001,1002,1003,1004,1005,1010,1011,1012,1013] 1101) (rowV encB da)) 10),some (ce' (AV.rens (sgN (fun k => match k.beq 1013 with | true => 1100 | false => k) [1001,1002,1003,1004,1005,1010,1011,1012,1013] 1101) (rowV encB sa)) 10),some (ce' (AV.rens (sgN (fun k => match k.beq 1013 with | true => 1100 | false => k) [1001,1002,1003,1004,1005,1010,1011,1012,1013] 1101) (vmap V)) 180),some (ce' [v' (sl' (some ak) nk ck),z' tr] 76),some (AO.map [(s' nm1,AV.slice 1108 0 n' 1 (Cp.lo n'),0)] 1),some (ce' (splice (AV.rens (sgN (fun k => match k.beq 1013 with | true => 1100 | false => k) [1001,1002,1003,1004,1005,1010,1011,1012,1013] 1101) (rowV encB b')) (0 + at' * 1) (vmap (AM' W a (m.min (n' - at') * 1)))) 10),some (ce' [s' nm1,i' at',v' (sl' (some a) m c)] 180),none,none] 1110 (h79' i z V at' a m c nk W ak ((wb' (o' i == IntKind.i64.wrap (↑z - o' 1)) g').a (k78'.a (k54'.a ((f' (findKey Tryz.prog (envW [] (A6' [(14,7,0,hv j'),(14,8,2,hv (AV.agg [s' nm1,i' at',v' (sl' (some a) m c)])),(14,18,0,hv (i' (i + 1))),(14,9,4,hv g'),(14,9,10,hv j'),(14,9,11,hv g'),(14,9,12,hv g'),(14,13,4,ho 1011 (AO.map [(s' nm1,a',0)] 1)),(14,11,7,hv g'),(14,11,12,hv g')]) [(14,14,A3' 14 14,lPd us tr pp qq z i nk ck (some ak) da sa V at' m m c c n n' a b b')] W F) 9 (s' nm1) [(s' nm1,AV.slice 1012 0 n 1 (Cp.lo n),0)] 0 = AP.ret (some (0,AV.slice 1012 0 n 1 (Cp.lo n))))).a ((k77' 1012 n).a ((p' ((fCr,14,A3' fCr 14,lPd us tr pp qq z i nk ck (some ak) da sa V at' m m c c n n' a b b').snd.snd.fst = (fCr,14,A3' fCr 14,lPd us tr pp qq z i nk ck (some ak) da sa V at' m m c c n n' a b b').snd.snd.fst)).a (k4'.a ((p' (VW (pt' 0 0::a'::a'::pt' 1010 0::e'::AV.map 1011::a'::a'::i' i::pt' 1100 0::v' (sl' (some a) m c)::AV.slice 1012 0 n 1 (Cp.lo n)::ra16 (ra4 (a'::a'::a'::AV.slice 1005 0 z 3 (Cp.lo z)::i' z::i' i::j'::i' i::pt' 1005 (0 + i * 3)::AV.agg [s' nm1,i' at',v' (sl' (some a) m c)]::i' i::pt' 1010 0::v' (sl' (some ak) nk ck)::z' ↑nk::g'::g'::pt' 1010 0::v' (sl' (some ak) nk ck)::i' i::v' (Value.pointer (some (ak.add (i * 1))))::j'::g'::g'::pt' 1100 2::v' (sl' (some a) m c)::i' i::pt' 0 0::pt' 0 0::pt' 0 1::AV.slice 1005 0 z 3 (Cp.lo z)::z' ↑z::z' (IntKind.i64.wrap (↑z - o' 1))::g'::g'::u'::u'::u'::g'::ra4 (a'::a'::a'::AV.map 1011::pt' 1100 0::s' nm1::AV.slice 1012 0 n 1 (Cp.lo n)::ra16 (ra16 (ra4 (a'::a'::a'::[]))))))) (pt' 0 0::a'::a'::pt' 1010 0::e'::AV.map 1011::a'::a'::a'::pt' 1100 0::v' (sl' (some a) m c)::AV.slice 1012 0 n 1 (Cp.lo n)::ra16 (ra4 (a'::a'::a'::AV.slice 1005 0 z 3 (Cp.lo z)::i' z::i' i::ra16 (ra16 (ra16 (ra16 (ra16 (a'::a'::[])))))))))).a (h76' 1001 1005 z us 1002 1003 pp 1004 qq da 1013 1100 sa V ak nk ck tr b at' a m c (h75' at' n' m W a 1013 1100 1001 1002 1003 1004 1005 1010 1011 1012 1101 b' (((p' (findKey Tryz.prog (envW [] (A6' [(14,7,0,hv j'),(14,8,2,hv (AV.agg [s' nm1,i' at',v' (sl' (some a) m c)])),(14,18,0,hv (i' (i + 1))),(14,9,4,hv g'),(14,9,10,hv j'),(14,9,11,hv g'),(14,9,12,hv g'),(14,13,4,ho 1011 (AO.map [(s' nm1,a',0)] 1)),(14,11,7,hv g'),(14,11,12,hv g')]) [(14,14,A3' 14 14,lPd us tr pp qq z i nk ck (some ak) da sa V at' m m c c n n' a b b')] W F) 9 (s' nm1) [(s' nm1,a',0)] 0 = AP.ret (some (0,a')))).a (f' (D6' (s' nm1) [(s' nm1,a',0)]))).a ((k2' i).a k1'))))))))))))) := χ
abbrev k80' (q0 q1 : Nat) : Cnd := (wb' (o' q0 == IntKind.i64.wrap (↑q1 - o' 1)) j')
theorem f1' (W : World) (us tr : Int) (pp qq z i nk ck : Nat) (ak : Addr) (da sa : Bs) (V : List Value) (at' m c n n' : Nat) (a : Addr) (b b' : Bs) (F : HP) : AW' [] (A6' (h8 at' a m c i ++ (h9 ++ [ht' fCr 11 7, hf' fCr 11 11, hf' fCr 11 12]))) [(fCr, 14, A3' fCr 14, lPd us tr pp qq z i nk ck (some ak) da sa V at' m m c c n n' a b b')] W fCr (A3' fCr 7) (tms 0 120 (aCr z i)) (oC0 us pp qq da sa V z (some ak) nk ck tr ++ oCr n b) kCr ixC F = VT.leaf (AX.normal,[pt' 0 0,pt' 1106 0,e',AV.map 1107,AV.slice 1105 0 z 3 (Cp.lo z),i' z,i' (i + 1)],120) [some (ce' [AV.map 1101,AV.slice 1105 0 z 3 (Cp.lo z),i' 1099511627776,z' us] 160),none,none,none,none,none,none,none,none,none,some (AO.map [(s' nm1,pt' 1102 0,0)] 1),some (ce' [AV.slice 1103 0 pp 1 (Cp.lo pp),AV.slice 1104 0 qq 1 (Cp.lo qq)] 174),some (ce' (AV.rens (sgN (fun k => match k.beq 1013 with | true => 1100 | false => k) [1001,1002,1003,1004,1005,1010,1011,1012,1013] 1101) (rowV encB da)) 10),some (ce' (AV.rens (sgN (fun k => match k.beq 1013 with | true => 1100 | false => k) [1001,1002,1003,1004,1005,1010,1011,1012,1013] 1101) (rowV encB sa)) 10),some (ce' (AV.rens (sgN (fun k => match k.beq 1013 with | true => 1100 | false => k) [1001,1002,1003,1004,1005,1010,1011,1012,1013] 1101) (vmap V)) 180),some (ce' [v' (sl' (some ak) nk ck),z' tr] 76),some (AO.map [(s' nm1,AV.slice 1108 0 n' 1 (Cp.lo n'),0)] 1),some (ce' (splice (AV.rens (sgN (fun k => match k.beq 1013 with | true => 1100 | false => k) [1001,1002,1003,1004,1005,1010,1011,1012,1013] 1101) (rowV encB b')) (0 + at' * 1) (vmap (AM' W a (m.min (n' - at') * 1)))) 10),some (ce' [s' nm1,i' at',v' (sl' (some a) m c)] 180),none,none] 1110 (h79' i z V at' a m c nk W ak ((k80' i z).a ((k29' tr).a ((wb' (decide (tr >= o' 0)) g').a (k78'.a (k54'.a ((f' (findKey Tryz.prog (envW [] (A6' [(14,7,0,hv j'),(14,8,2,hv (AV.agg [s' nm1,i' at',v' (sl' (some a) m c)])),(14,18,0,hv (i' (i + 1))),(14,9,4,hv g'),(14,9,10,hv j'),(14,9,11,hv g'),(14,9,12,hv g'),(14,13,4,ho 1011 (AO.map [(s' nm1,a',0)] 1)),(14,11,7,hv j'),(14,11,11,hv g'),(14,11,12,hv g')]) [(14,14,A3' 14 14,lPd us tr pp qq z i nk ck (some ak) da sa V at' m m c c n n' a b b')] W F) 9 (s' nm1) [(s' nm1,AV.slice 1012 0 n 1 (Cp.lo n),0)] 0 = AP.ret (some (0,AV.slice 1012 0 n 1 (Cp.lo n))))).a ((k77' 1012 n).a ((p' ((fCr,14,A3' fCr 14,lPd us tr pp qq z i nk ck (some ak) da sa V at' m m c c n n' a b b').snd.snd.fst = (fCr,14,A3' fCr 14,lPd us tr pp qq z i nk ck (some ak) da sa V at' m m c c n n' a b b').snd.snd.fst)).a (k4'.a ((p' (VW (pt' 0 0::a'::a'::pt' 1010 0::e'::AV.map 1011::a'::a'::i' i::pt' 1100 0::v' (sl' (some a) m c)::AV.slice 1012 0 n 1 (Cp.lo n)::ra16 (ra4 (a'::a'::a'::AV.slice 1005 0 z 3 (Cp.lo z)::i' z::i' i::j'::i' i::pt' 1005 (0 + i * 3)::AV.agg [s' nm1,i' at',v' (sl' (some a) m c)]::i' i::pt' 1010 0::v' (sl' (some ak) nk ck)::z' ↑nk::g'::g'::pt' 1010 0::v' (sl' (some ak) nk ck)::i' i::v' (Value.pointer (some (ak.add (i * 1))))::j'::g'::g'::pt' 1100 2::v' (sl' (some a) m c)::i' i::pt' 0 0::pt' 0 0::pt' 0 1::AV.slice 1005 0 z 3 (Cp.lo z)::z' ↑z::z' (IntKind.i64.wrap (↑z - o' 1))::j'::j'::pt' 1010 1::z' tr::g'::g'::ra4 (a'::a'::a'::AV.map 1011::pt' 1100 0::s' nm1::AV.slice 1012 0 n 1 (Cp.lo n)::ra16 (ra16 (ra4 (a'::a'::a'::[]))))))) (pt' 0 0::a'::a'::pt' 1010 0::e'::AV.map 1011::a'::a'::a'::pt' 1100 0::v' (sl' (some a) m c)::AV.slice 1012 0 n 1 (Cp.lo n)::ra16 (ra4 (a'::a'::a'::AV.slice 1005 0 z 3 (Cp.lo z)::i' z::i' i::ra16 (ra16 (ra16 (ra16 (ra16 (a'::a'::[])))))))))).a (h76' 1001 1005 z us 1002 1003 pp 1004 qq da 1013 1100 sa V ak nk ck tr b at' a m c (h75' at' n' m W a 1013 1100 1001 1002 1003 1004 1005 1010 1011 1012 1101 b' (((p' (findKey Tryz.prog (envW [] (A6' [(14,7,0,hv j'),(14,8,2,hv (AV.agg [s' nm1,i' at',v' (sl' (some a) m c)])),(14,18,0,hv (i' (i + 1))),(14,9,4,hv g'),(14,9,10,hv j'),(14,9,11,hv g'),(14,9,12,hv g'),(14,13,4,ho 1011 (AO.map [(s' nm1,a',0)] 1)),(14,11,7,hv j'),(14,11,11,hv g'),(14,11,12,hv g')]) [(14,14,A3' 14 14,lPd us tr pp qq z i nk ck (some ak) da sa V at' m m c c n n' a b b')] W F) 9 (s' nm1) [(s' nm1,a',0)] 0 = AP.ret (some (0,a')))).a (f' (D6' (s' nm1) [(s' nm1,a',0)]))).a ((k2' i).a k1'))))))))))))))) := χ
theorem eX' (W : World) (us tr : Int) (pp qq z i nk ck : Nat) (ak : Addr) (da sa : Bs) (V : List Value) (at' m q c n n' : Nat) (a : Addr) (b b' : Bs) (F : HP) : AW' [] (A6' (h8 at' a m c i ++ (h9 ++ [ht' fCr 11 7, ht' fCr 11 11, ht' fCr 11 12, (fCr, 12, 5, hv (iv (o' q))), (fCr, 12, 6, h0v (slV (some a) q c))]))) [(fCr, 14, A3' fCr 14, lPd us tr pp qq z i nk ck (some ak) da sa V at' q m c c n n' a b b')] W fCr (A3' fCr 7) (tms 0 120 (aCr z i)) (oC0 us pp qq da sa V z (some ak) nk ck tr ++ oCr n b) kCr ixC F = VT.leaf (AX.normal,[pt' 0 0,pt' 1106 0,e',AV.map 1107,AV.slice 1105 0 z 3 (Cp.lo z),i' z,i' (i + 1)],120) [some (ce' [AV.map 1101,AV.slice 1105 0 z 3 (Cp.lo z),i' 1099511627776,z' us] 160),none,none,none,none,none,none,none,none,none,some (AO.map [(s' nm1,pt' 1102 0,0)] 1),some (ce' [AV.slice 1103 0 pp 1 (Cp.lo pp),AV.slice 1104 0 qq 1 (Cp.lo qq)] 174),some (ce' (AV.rens (sgN (fun k => match k.beq 1013 with | true => 1100 | false => k) [1001,1002,1003,1004,1005,1010,1011,1012,1013] 1101) (rowV encB da)) 10),some (ce' (AV.rens (sgN (fun k => match k.beq 1013 with | true => 1100 | false => k) [1001,1002,1003,1004,1005,1010,1011,1012,1013] 1101) (rowV encB sa)) 10),some (ce' (AV.rens (sgN (fun k => match k.beq 1013 with | true => 1100 | false => k) [1001,1002,1003,1004,1005,1010,1011,1012,1013] 1101) (vmap V)) 180),some (ce' [v' (sl' (some ak) nk ck),z' tr] 76),some (AO.map [(s' nm1,AV.slice 1108 0 n' 1 (Cp.lo n'),0)] 1),some (ce' (splice (AV.rens (sgN (fun k => match k.beq 1013 with | true => 1100 | false => k) [1001,1002,1003,1004,1005,1010,1011,1012,1013] 1101) (rowV encB b')) (0 + at' * 1) (vmap (AM' W a (q.min (n' - at') * 1)))) 10),some (ce' [s' nm1,i' at',v' (sl' (some a) m c)] 180),none,none] 1110 (h79' i z V at' a m c nk W ak ((k80' i z).a ((k29' tr).a ((wb' (decide (tr >= o' 0)) j').a (k62'.a ((k29' tr).a ((f' (Wk (z' (if tr < ↑m then tr else ↑m)) (i' q))).a (((p' (0 <= q)).a ((p' (q <= c)).a (f' (Wk (v' (sl' (some a) q c)) (v' (sl' (some a) q c)))))).a (k54'.a ((f' (findKey Tryz.prog (envW [] (A6' [(14,7,0,hv j'),(14,8,2,hv (AV.agg [s' nm1,i' at',v' (sl' (some a) m c)])),(14,18,0,hv (i' (i + 1))),(14,9,4,hv g'),(14,9,10,hv j'),(14,9,11,hv g'),(14,9,12,hv g'),(14,13,4,ho 1011 (AO.map [(s' nm1,a',0)] 1)),(14,11,7,hv j'),(14,11,11,hv j'),(14,11,12,hv j'),(14,12,5,hv (i' q)),(14,12,6,h0v (v' (sl' (some a) q c)))]) [(14,14,A3' 14 14,lPd us tr pp qq z i nk ck (some ak) da sa V at' q m c c n n' a b b')] W F) 9 (s' nm1) [(s' nm1,AV.slice 1012 0 n 1 (Cp.lo n),0)] 0 = AP.ret (some (0,AV.slice 1012 0 n 1 (Cp.lo n))))).a ((k77' 1012 n).a ((p' ((fCr,14,A3' fCr 14,lPd us tr pp qq z i nk ck (some ak) da sa V at' q m c c n n' a b b').snd.snd.fst = (fCr,14,A3' fCr 14,lPd us tr pp qq z i nk ck (some ak) da sa V at' q m c c n n' a b b').snd.snd.fst)).a (k4'.a ((p' (VW (pt' 0 0::a'::a'::pt' 1010 0::e'::AV.map 1011::a'::a'::i' i::pt' 1100 0::v' (sl' (some a) q c)::AV.slice 1012 0 n 1 (Cp.lo n)::ra16 (ra4 (a'::a'::a'::AV.slice 1005 0 z 3 (Cp.lo z)::i' z::i' i::j'::i' i::pt' 1005 (0 + i * 3)::AV.agg [s' nm1,i' at',v' (sl' (some a) m c)]::i' i::pt' 1010 0::v' (sl' (some ak) nk ck)::z' ↑nk::g'::g'::pt' 1010 0::v' (sl' (some ak) nk ck)::i' i::v' (Value.pointer (some (ak.add (i * 1))))::j'::g'::g'::pt' 1100 2::v' (sl' (some a) m c)::i' i::pt' 0 0::pt' 0 0::pt' 0 1::AV.slice 1005 0 z 3 (Cp.lo z)::z' ↑z::z' (IntKind.i64.wrap (↑z - o' 1))::j'::j'::pt' 1010 1::z' tr::j'::j'::v' (sl' (some a) m c)::v' (sl' (some a) m c)::z' ↑m::pt' 1010 1::z' tr::i' q::v' (sl' (some a) q c)::AV.map 1011::pt' 1100 0::s' nm1::AV.slice 1012 0 n 1 (Cp.lo n)::ra16 (ra16 (ra4 (a'::a'::a'::[])))))) (pt' 0 0::a'::a'::pt' 1010 0::e'::AV.map 1011::a'::a'::a'::pt' 1100 0::v' (sl' (some a) q c)::AV.slice 1012 0 n 1 (Cp.lo n)::ra16 (ra4 (a'::a'::a'::AV.slice 1005 0 z 3 (Cp.lo z)::i' z::i' i::ra16 (ra16 (ra16 (ra16 (ra16 (a'::a'::[])))))))))).a (h76' 1001 1005 z us 1002 1003 pp 1004 qq da 1013 1100 sa V ak nk ck tr b at' a m c (h75' at' n' q W a 1013 1100 1001 1002 1003 1004 1005 1010 1011 1012 1101 b' (((p' (findKey Tryz.prog (envW [] (A6' [(14,7,0,hv j'),(14,8,2,hv (AV.agg [s' nm1,i' at',v' (sl' (some a) m c)])),(14,18,0,hv (i' (i + 1))),(14,9,4,hv g'),(14,9,10,hv j'),(14,9,11,hv g'),(14,9,12,hv g'),(14,13,4,ho 1011 (AO.map [(s' nm1,a',0)] 1)),(14,11,7,hv j'),(14,11,11,hv j'),(14,11,12,hv j'),(14,12,5,hv (i' q)),(14,12,6,h0v (v' (sl' (some a) q c)))]) [(14,14,A3' 14 14,lPd us tr pp qq z i nk ck (some ak) da sa V at' q m c c n n' a b b')] W F) 9 (s' nm1) [(s' nm1,a',0)] 0 = AP.ret (some (0,a')))).a (f' (D6' (s' nm1) [(s' nm1,a',0)]))).a ((k2' i).a k1')))))))))))))))))) := χ
end
def padB (b : Bs) (t : Nat) : Bs := b ++ List.replicate (t - b.length) 0
theorem MD' (b : Bs) (t : Nat) : (padB b t).length = max b.length t := by rw [padB, la', List.length_replicate]; omega
theorem WF' (j : Nat) : List.replicate (j + 1) (0 : UInt8) = List.replicate j 0 ++ [0] := by rw [List.replicate_succ']
theorem b1' (W : World) (us tr : Int) (pp qq z i nk ck : Nat) (ok : Option Addr) (da sa : Bs) (V : List Value) (at' q m c0 c : Nat) (a : Addr) (b : Bs) (hT : at' + q <= 4398046511104) (hb : b.length <= 4398046511104) :
  LTri Θ W (A3' fCr 14) (tms 0 120 (aPd a q c b.length z i)) (oC0 us pp qq da sa V z ok nk ck tr ++ oPd at' a m c0 b) (.exit 4) (tms 0 120 (aPd a q c (padB b (at' + q)).length z i)) (oC0 us pp qq da sa V z ok nk ck tr ++ oPd at' a m c0 (padB b (at' + q))) := by
 refine B6' (W := W) (g := fCr) (b := A3' fCr 14) (σ := {s : Bs // ∃ j, j <= (at' + q) - b.length /\ s = b ++ List.replicate j 0}) 120 (fun s => aPd a q c s.1.length z i) (fun s => oC0 us pp qq da sa V z ok nk ck tr ++ oPd at' a m c0 s.1) (.exit 4) (aPd a q c (padB b (at' + q)).length z i) (oC0 us pp qq da sa V z ok nk ck tr ++ oPd at' a m c0 (padB b (at' + q))) (fun s => at' + q - s.1.length) kPd [0, 3, 4, 5, 9, 10, 11, 35, 36, 37] (by intro h; cases h) (fun _ => rfl) rfl ?_ ⟨b, 0, Nat.zero_le _, by simp⟩
 rintro ⟨s, j, hj, hs⟩; simp only
 have hsl : s.length = b.length + j := by rw [hs, la', List.length_replicate]
 have hrl : (rowV encB s).length = s.length := BS' s
 have e2 : IntKind.i64.wrap (o' at' + (q : Int)) = o' (at' + q) := by
  rw [IntWalk.i64_in _ (by simp only [Z0]; omega)]; simp only [Z0]; omega
 by_cases h1 : s.length < at' + q
 ·have e1 : decide ((s.length : Int) < o' (at' + q)) = true := decide_eq_true (by simp only [Z0]; omega)
  have ktk : List.take (s.length * 1) (List.drop 0 (rowV encB s)) = rowV encB s := by rw [List.drop_zero, List.take_of_length_le (by rw [hrl, Nat.mul_one]; exact Yd)]
  have k1 : (0 + s.length * 1).ble (rowV encB s).length = true := AL' (by rw [hrl]; omega); have k2 : ((s.length + 1) * 1).ble 140737488355328 = true := AL' ω; have k3 : (s.length + 1).ble 9223372036854775807 = true := AL' ω
  have k4 : (List.take (s.length * 1) (List.drop 0 (rowV encB s))).length.beq (s.length * 1) = true := by rw [ktk, hrl, Nat.mul_one]; exact Nat.beq_refl _
  have hnl : (s ++ [0]).length = s.length + 1 := by rw [la']; rfl
  refine ⟨[], A6' [(fCr, 14, 6, hv (iv (o' (at' + q)))), ht' fCr 14 7], [], fun _ _ => noC, fun _ _ => noL, fun F => ?_⟩
  refine Yj (dD' W us tr pp qq z i nk ck ok da sa V at' q m c0 c s.length a s F) ⟨⟨?_, rfl, .inl ⟨rfl, ⟨s ++ [0], j + 1, by omega, by rw [hs, WF', List.append_assoc]⟩, by show at' + q - (s ++ [0]).length < _; rw [hnl]; omega, [(1001, 1001), (1002, 1002), (1003, 1003), (1004, 1004), (1005, 1005), (1010, 1010), (1011, 1011), (1012, 1101), (1013, 1013)], by kernel_rfl, by kernel_rfl, ⟨Ya, Ya, Ya, Ya, Ya, Ya, by rw [hnl]; exact Ya, Ya, Ya, Ya, Ye⟩, ⟨_, rfl, Yc⟩, ⟨_, rfl, Yc⟩, ⟨_, rfl, Yc⟩, ⟨_, rfl, AQ' rfl rfl⟩, ⟨_, rfl, AQ' rfl rfl⟩, ⟨_, rfl, OW.of_eq (by simp only [AO.ren, AS'])⟩, ⟨_, rfl, Yc⟩, ⟨_, rfl, Yc⟩, ⟨_, rfl, AQ' (by rw [ktk, BY']; rfl) rfl⟩, ⟨_, rfl, Yc⟩, Ye⟩⟩⟩
  simp only [ch', k1, k2, k3, k4, true_and, and_true]; and_intros; all_goals exact Kc25'
 ·have e1 : decide ((s.length : Int) < o' (at' + q)) = false := decide_eq_false (by simp only [Z0]; omega)
  have hse : s = padB b (at' + q) := by
   rw [hs, padB]
   congr 2
   omega
  rw [hse]; rw [hse] at e1
  refine ⟨[], A6' [(fCr, 14, 6, hv (iv (o' (at' + q)))), hf' fCr 14 7], [], fun _ _ => noC, fun _ _ => noL, fun F => ?_⟩
  generalize hpd : padB b (at' + q) = pd at *
  refine Yj (dE' W us tr pp qq z i nk ck ok da sa V at' q m c0 c pd.length a pd F) ⟨⟨?_, rfl, .inr ⟨rfl, [(1001, 1001), (1002, 1002), (1003, 1003), (1004, 1004), (1005, 1005), (1010, 1010), (1011, 1011), (1012, 1012), (1013, 1013)], by kernel_rfl, by kernel_rfl, ⟨Ya, Ya, Ya, Ya, Ya, Ya, Ya, Ya, Ya, Ya, Ye⟩, ⟨_, rfl, Yc⟩, ⟨_, rfl, Yc⟩, ⟨_, rfl, Yc⟩, ⟨_, rfl, AQ' rfl rfl⟩, ⟨_, rfl, AQ' rfl rfl⟩, ⟨_, rfl, OW.of_eq (by simp only [AO.ren, AS'])⟩, ⟨_, rfl, Yc⟩, ⟨_, rfl, Yc⟩, ⟨_, rfl, AQ' rfl rfl⟩, ⟨_, rfl, Yc⟩, Ye⟩⟩⟩
  simp only [ch', true_and, and_true]; and_intros; all_goals exact Kc25'
def dOf (z i : Nat) (tr : Int) (d : Bs) : Bs := if i + 1 = z /\ 0 <= tr then d.take tr.toNat else d
def crS (kp : List Bool) (tr : Int) (z : Nat) : Nat -> Nat -> Bs -> List Bs -> Bs
 | at', i, b, [] => b
 | at', i, b, d :: ds => crS kp tr z (at' + d.length) (i + 1) (if kp.getD i false = true then E8' b at' (dOf z i tr d) else b) ds
structure KAt (W : World) (ok : Option Addr) (kp : List Bool) : Prop where
 le : kp.length <= big
 at' : ∀ i b, kp[i]? = some b -> ∃ ak, ok = some ak /\ W.cell? (ak.add (i * 1)) = some (.bool b)
theorem SJ' (x : AV) : OW (lfM x) (lfM .any) := fun N i D w h => by
 simp only [lfM, OR, ERs] at h ⊢; obtain ⟨l, es', h1, h2, h3, ⟨e, r, ⟨q1, q2, q3⟩, q4, q5⟩, h5⟩ := h
 exact ⟨l, es', h1, h2, h3, ⟨e, r, ⟨q1, by simp only [VR], q3⟩, q4, q5⟩, h5⟩
theorem M2' (x : AV) : D6' (sv nm1) [(sv nm1, x, 0)] := fun j v h => by
 have e : B4' (sv nm1) [(sv nm1, x, 0)] 0 = some (0, x) := χ
 rw [e] at h; cases h
 exact ⟨_, rfl, by kernel_rfl⟩
theorem HU' {b d : Bs} {at' : Nat} (h : b.length <= at') : (E8' b at' d).length = at' + d.length := by
 rw [E8', la', la', List.length_replicate]; omega
theorem II' {b d : Bs} {at' : Nat} (h : b.length <= at') : splice (rowV encB (padB b (at' + d.length))) (0 + at' * 1) (rowV encB d) = rowV encB (E8' b at' d) := by
 have e : padB b (at' + d.length) = (b ++ List.replicate (at' - b.length) 0) ++ List.replicate d.length 0 := by
  rw [padB, List.append_assoc, List.replicate_append_replicate]
  congr 2
  omega
 have hl : (rowV encB (b ++ List.replicate (at' - b.length) (0 : UInt8))).length = 0 + at' * 1 := by
  rw [BS', la', List.length_replicate]; omega
 have hl2 : (rowV encB (b ++ List.replicate (at' - b.length) (0 : UInt8)) ++ rowV encB (List.replicate d.length (0 : UInt8))).length <= 0 + at' * 1 + (rowV encB d).length := by
  rw [la', hl, BS', BS', List.length_replicate]; exact Yd
 rw [splice, e, BY', List.take_left' hl, List.drop_eq_nil_of_le hl2, List.append_nil, E8']; simp only [BY']
theorem O6' (xs : List Rs) (x : Rs) : lenR (xs ++ [x]) = lenR xs + x.d.length := by simp [lenR]
structure Rn (W : World) (V : List Value) (z i : Nat) (at' : Nat) (a : Addr) (d b : Bs) (c : Nat) : Prop where
 hi : i < z
 zb : z < 1099511627776
 he : List.take 3 (List.drop (0 + i * 3) (vmap V)) = [sv nm1, iv (o' at'), slV (some a) d.length c]
 hd : BAt W.cell? (some a) d
 hc : d.length <= c
 hb : b.length <= at'
 hT : at' + d.length <= 2199023255552
abbrev RdS (W : World) (us tr : Int) (pp qq z nk ck : Nat) (ok : Option Addr) (da sa : Bs) (V : List Value) (i : Nat) (b b' : Bs) : Prop :=
 ∃ (con : GP') (hints : BI') (lc : LcL), (∀ F, AH' W F -> ∀ x ∈ con, C1OK Θ F x.1 x.2) /\ (∀ F, AH' W F -> ∀ x ∈ lc, L1OK Θ F x.2.2.1 x.2.2.2) /\
  ∀ F, VAll (fun r os _ => r.2.2 = 120 /\ (r.1 = .normal /\ ∃ l, FitT kCr ixC r.2.1 os (aCr z (i + 1)) (oC0 us pp qq da sa V z ok nk ck tr ++ oCr b'.length b') l)) (AW' con hints lc W fCr (A3' fCr 7) (tms 0 120 (aCr z i)) (oC0 us pp qq da sa V z ok nk ck tr ++ oCr b.length b) kCr ixC F)
theorem UI' (us tr : Int) (pp qq z i nk ck : Nat) (ok : Option Addr) (da sa : Bs) (V : List Value) (at' q m c0 c : Nat) (a : Addr) (b : Bs) (hT : at' + q <= 4398046511104) (hb : b.length <= 4398046511104) (F : HP) (hF : AH' W F) : L1OK Θ F (A3' fCr 14) (lPd us tr pp qq z i nk ck ok da sa V at' q m c0 c b.length (padB b (at' + q)).length a b (padB b (at' + q))) :=
 BV' hF (fun args => by split <;> first | exact RO.ret _ | exact RO.fail _) (fun _ _ => b1' W us tr pp qq z i nk ck ok da sa V at' q m c0 c a b hT hb) fun _ => by
  simp only [RT.pick]; refine BD' rfl rfl (A0' rfl (A0' rfl (A0' Ye (A0' rfl (A0' rfl (A0' Ye (A0' rfl (A0' rfl (A0' Ye (A0' Ye A1')))))))))) ?_ (A0' rfl (A0' rfl (A0' Ye (A0' rfl (A0' rfl (A0' Ye (A0' rfl (A0' rfl (A0' Ye (A0' Ye A1')))))))))) ?_
  ·exact A0' ⟨rfl, rfl, Ye, Ye, Ye⟩ (A0' ⟨Ye, rfl, Ye⟩ (A0' ⟨rfl, rfl, Ye⟩ (A0' (AR' _ _) (A0' (AR' _ _) (A0' (C1' _ _) (A0' ⟨Ye, Ye, Ye⟩ (A0' ⟨Ye, Ye, Ye⟩ (A0' (AR' _ _) (A0' ⟨Ye, Ye, Ye, Ye⟩ A1')))))))))
  ·exact A0' ⟨rfl, rfl, Ye, Ye, Ye⟩ (A0' ⟨Ye, rfl, Ye⟩ (A0' ⟨rfl, rfl, Ye⟩ (A0' (AR' _ _) (A0' (AR' _ _) (A0' (C1' _ _) (A0' ⟨Ye, Ye, Ye⟩ (A0' ⟨Ye, Ye, Ye⟩ (A0' (AR' _ _) (A0' ⟨Ye, Ye, Ye, Ye⟩ A1')))))))))
theorem rd_A (W : World) (us tr : Int) (pp qq z nk ck : Nat) (ok : Option Addr) (da sa : Bs) (V : List Value) (i at' c : Nat) (a : Addr) (d b : Bs) (K : Rn W V z i at' a d b c) (hk : nk <= i) : RdS W us tr pp qq z nk ck ok da sa V i b b := by
 obtain ⟨hi, zb, he, hd, hc, hb, hT⟩ := K; have e1 : decide (o' i < o' z) = true := ltTN hi; have hw := B8' i ω
 have hbl : i.blt z = true := by rw [bl']; exact hi
 have e9 : decide (o' i >= (nk : Int)) = true := decide_eq_true (by simp only [Z0]; omega)
 refine ⟨[], A6' (h8 at' a d.length c i ++ [ht' fCr 9 4, ht' fCr 9 12]), [], fun _ _ => noC, fun _ _ => noL, fun F => ?_⟩
 refine Yj (f3' W us tr pp qq z i nk ck ok da sa V at' d.length c b.length a b F) ⟨⟨?_, rfl, rfl, [(1001, 1001), (1002, 1002), (1003, 1003), (1004, 1004), (1005, 1005), (1010, 1010), (1011, 1011), (1012, 1012)], by kernel_rfl, by kernel_rfl, ⟨Ya, Ya, Ya, Ya, Ya, Ya, Ya, Ye⟩, ⟨_, rfl, Yc⟩, ⟨_, rfl, Yc⟩, ⟨_, rfl, Yc⟩, ⟨_, rfl, AQ' rfl rfl⟩, ⟨_, rfl, AQ' rfl rfl⟩, ⟨_, rfl, OW.of_eq (by simp only [AO.ren, AS'])⟩, ⟨_, rfl, Yc⟩, ⟨_, rfl, Yc⟩, ⟨_, rfl, AQ' rfl rfl⟩, Ye⟩⟩
 simp only [ch', he, hbl,  true_and, and_true]; and_intros; all_goals first | (with_reducible exact Ye) | (with_reducible exact rfl) | (with_reducible exact Ya) | (with_reducible exact Yb) | (with_reducible exact Yc) | (with_reducible exact C6' hw) | (with_reducible exact A2' e1) | (with_reducible exact A2' e9) | exact AT' _ | exact rfl | exact Ya | exact Kc2'
theorem rd_N (W : World) (us tr : Int) (pp qq z nk ck : Nat) (ak : Addr) (da sa : Bs) (V : List Value) (i at' c : Nat) (a : Addr) (d b : Bs) (K : Rn W V z i at' a d b c) (hk : i < nk) (hv' : W.cell? (ak.add (i * 1)) = some (.bool false)) : RdS W us tr pp qq z nk ck (some ak) da sa V i b b := by
 obtain ⟨hi, zb, he, hd, hc, hb, hT⟩ := K; have e1 : decide (o' i < o' z) = true := ltTN hi; have hw := B8' i ω
 have hbl : i.blt z = true := by rw [bl']; exact hi
 have e9 : decide (o' i >= (nk : Int)) = false := decide_eq_false (by simp only [Z0]; omega)
 have hbk : i.blt nk = true := by rw [bl']; exact hk
 refine ⟨[], A6' (h8 at' a d.length c i ++ [hf' fCr 9 4, hf' fCr 9 10, ht' fCr 9 11, ht' fCr 9 12]), [], fun _ _ => noC, fun _ _ => noL, fun F => ?_⟩
 refine Yj (eY' W us tr pp qq z i nk ck ak da sa V at' d.length c b.length a b F) ⟨⟨?_, rfl, rfl, [(1001, 1001), (1002, 1002), (1003, 1003), (1004, 1004), (1005, 1005), (1010, 1010), (1011, 1011), (1012, 1012)], by kernel_rfl, by kernel_rfl, ⟨Ya, Ya, Ya, Ya, Ya, Ya, Ya, Ye⟩, ⟨_, rfl, Yc⟩, ⟨_, rfl, Yc⟩, ⟨_, rfl, Yc⟩, ⟨_, rfl, AQ' rfl rfl⟩, ⟨_, rfl, AQ' rfl rfl⟩, ⟨_, rfl, OW.of_eq (by simp only [AO.ren, AS'])⟩, ⟨_, rfl, Yc⟩, ⟨_, rfl, Yc⟩, ⟨_, rfl, AQ' rfl rfl⟩, Ye⟩⟩
 simp only [ch', he, hbl, hbk, hv', Option.isSome_some, Option.getD_some, true_and, and_true]; and_intros; all_goals first | (with_reducible exact Ye) | (with_reducible exact rfl) | (with_reducible exact Ya) | (with_reducible exact Yb) | (with_reducible exact Yc) | (with_reducible exact C6' hw) | (with_reducible exact A2' e1) | (with_reducible exact A2' e9) | exact A2' rfl | exact AT' _ | exact rfl | exact Ya | exact Kc2'
theorem rd_B (W : World) (us tr : Int) (pp qq z nk ck : Nat) (ak : Addr) (da sa : Bs) (V : List Value) (i at' c : Nat) (a : Addr) (d b : Bs) (K : Rn W V z i at' a d b c) (hk : i < nk) (hv' : W.cell? (ak.add (i * 1)) = some (.bool true)) (hl : i + 1 ≠ z) : RdS W us tr pp qq z nk ck (some ak) da sa V i b (E8' b at' d) := by
 obtain ⟨hi, zb, he, hd, hc, hb, hT⟩ := K; have e1 : decide (o' i < o' z) = true := ltTN hi; have hw := B8' i ω
 have hbl : i.blt z = true := by rw [bl']; exact hi
 have e9 : decide (o' i >= (nk : Int)) = false := decide_eq_false (by simp only [Z0]; omega)
 have hbk : i.blt nk = true := by rw [bl']; exact hk
 have hzw : IntKind.i64.wrap ((z : Int) - o' 1) = o' (z - 1) := by
  rw [IntWalk.i64_in _ (by simp only [Z0]; omega)]; simp only [Z0]; omega
 obtain ⟨D, hD⟩ : ∃ D, D = d := ⟨_, rfl⟩
 have hDB : BAt W.cell? (some a) D := by rw [hD]; exact hd
 have hDl : D.length = d.length := by rw [hD]
 have hDd : D.length <= d.length := ω
 subst hD
 have hpl : (padB b (at' + D.length)).length = at' + D.length := by rw [MD']; omega
 have hpp : (E8' b at' D).length = at' + D.length := HU' hb
 have hmin : D.length.min (at' + D.length - at') = D.length := by rw [Nat.add_sub_cancel_left]; exact Nat.min_self _
 obtain ⟨o1, o2⟩ := EB' hDB
 have o3 : (vmap (AM' W a (D.length * 1))).all AV.one = true := by rw [o2]; exact KD' D
 have o4 : ∀ σ : Nat -> Nat, (0 + at' * 1 + (vmap (AM' W a (D.length * 1))).length).ble (AV.rens σ (rowV encB (padB b (at' + D.length)))).length = true := fun σ => by
  rw [o2, A5', BS', BS', hpl]; exact AL' ω
 have o5 : ∀ σ : Nat -> Nat, splice (AV.rens σ (rowV encB (padB b (at' + D.length)))) (0 + at' * 1) (vmap (AM' W a (D.length * 1))) = rowV encB (E8' b at' D) := fun σ => by
  rw [o2, A5']; exact II' hb
 have o6 : at'.ble (at' + D.length) = true := AL' ω; have o7 : (at' + D.length).ble (at' + D.length) = true := AL' (Yd); have o8 : D.length.ble D.length = true := AL' (Yd)
 have e7 : (o' i == o' (z - 1)) = false := beq_false_of_ne fun e => by have := Int.ofNat.inj e; omega
 have hL := fun F (hF : AH' W F) => UI' us tr pp qq z i nk ck (some ak) da sa V at' D.length D.length c c a b ω ω F hF
 rw [hpl] at hL
 refine ⟨[], A6' (h8 at' a D.length c i ++ (h9 ++ [hf' fCr 11 7, hf' fCr 11 12])), [(fCr, 14, A3' fCr 14, lPd us tr pp qq z i nk ck (some ak) da sa V at' D.length D.length c c b.length (at' + D.length) a b (padB b (at' + D.length)))], fun _ _ => noC, fun F hF => C2' (hL F hF), fun F => ?_⟩
 refine Yj (f2' W us tr pp qq z i nk ck ak da sa V at' D.length c b.length (at' + D.length) a b (padB b (at' + D.length)) F) ⟨⟨?_, rfl, rfl, [(1001, 1101), (1002, 1102), (1003, 1103), (1004, 1104), (1005, 1105), (1010, 1106), (1011, 1107), (1012, 1108)], by kernel_rfl, by kernel_rfl, ⟨Ya, Ya, Ya, Ya, Ya, Ya, Ya, Ye⟩, ⟨_, rfl, Yc⟩, ⟨_, rfl, Yc⟩, ⟨_, rfl, Yc⟩, ⟨_, rfl, AQ' (A5' _ _) rfl⟩, ⟨_, rfl, AQ' (A5' _ _) rfl⟩, ⟨_, rfl, OW.of_eq (by simp only [AO.ren, AS'])⟩, ⟨_, rfl, Yc⟩, ⟨_, rfl, by rw [hpp]; exact Yc⟩, ⟨_, rfl, AQ' (by rw [hmin]; exact o5 _) rfl⟩, Ye⟩⟩
 simp only [ch', he, hbl, hbk, hv', hmin, hzw, Option.isSome_some, Option.getD_some, o1, o3, o6, o7, o8, true_and, and_true]; and_intros; all_goals first | (with_reducible exact Ye) | (with_reducible exact rfl) | (with_reducible exact Ya) | (with_reducible exact Yb) | (with_reducible exact Yc) | (with_reducible exact C6' hw) | (with_reducible exact A2' e1) | (with_reducible exact A2' e9) | (with_reducible exact A2' e7) | exact Kc18'
theorem rd_C (W : World) (us tr : Int) (pp qq z nk ck : Nat) (ak : Addr) (da sa : Bs) (V : List Value) (i at' c : Nat) (a : Addr) (d b : Bs) (K : Rn W V z i at' a d b c) (hk : i < nk) (hv' : W.cell? (ak.add (i * 1)) = some (.bool true)) (hl : i + 1 = z) (ht : tr < 0) : RdS W us tr pp qq z nk ck (some ak) da sa V i b (E8' b at' d) := by
 obtain ⟨hi, zb, he, hd, hc, hb, hT⟩ := K; have e1 : decide (o' i < o' z) = true := ltTN hi; have hw := B8' i ω
 have hbl : i.blt z = true := by rw [bl']; exact hi
 have e9 : decide (o' i >= (nk : Int)) = false := decide_eq_false (by simp only [Z0]; omega)
 have hbk : i.blt nk = true := by rw [bl']; exact hk
 have hzw : IntKind.i64.wrap ((z : Int) - o' 1) = o' (z - 1) := by
  rw [IntWalk.i64_in _ (by simp only [Z0]; omega)]; simp only [Z0]; omega
 obtain ⟨D, hD⟩ : ∃ D, D = d := ⟨_, rfl⟩
 have hDB : BAt W.cell? (some a) D := by rw [hD]; exact hd
 have hDl : D.length = d.length := by rw [hD]
 have hDd : D.length <= d.length := ω
 subst hD
 have hpl : (padB b (at' + D.length)).length = at' + D.length := by rw [MD']; omega
 have hpp : (E8' b at' D).length = at' + D.length := HU' hb
 have hmin : D.length.min (at' + D.length - at') = D.length := by rw [Nat.add_sub_cancel_left]; exact Nat.min_self _
 obtain ⟨o1, o2⟩ := EB' hDB
 have o3 : (vmap (AM' W a (D.length * 1))).all AV.one = true := by rw [o2]; exact KD' D
 have o4 : ∀ σ : Nat -> Nat, (0 + at' * 1 + (vmap (AM' W a (D.length * 1))).length).ble (AV.rens σ (rowV encB (padB b (at' + D.length)))).length = true := fun σ => by
  rw [o2, A5', BS', BS', hpl]; exact AL' ω
 have o5 : ∀ σ : Nat -> Nat, splice (AV.rens σ (rowV encB (padB b (at' + D.length)))) (0 + at' * 1) (vmap (AM' W a (D.length * 1))) = rowV encB (E8' b at' D) := fun σ => by
  rw [o2, A5']; exact II' hb
 have o6 : at'.ble (at' + D.length) = true := AL' ω; have o7 : (at' + D.length).ble (at' + D.length) = true := AL' (Yd); have o8 : D.length.ble D.length = true := AL' (Yd); have e7 : (o' i == o' (z - 1)) = true := beq_iff_eq.2 (by congr 1; omega); have e8 : decide (tr >= o' 0) = false := decide_eq_false (by simp only [Z0]; omega)
 have hL := fun F (hF : AH' W F) => UI' us tr pp qq z i nk ck (some ak) da sa V at' D.length D.length c c a b ω ω F hF
 rw [hpl] at hL
 refine ⟨[], A6' (h8 at' a D.length c i ++ (h9 ++ [ht' fCr 11 7, hf' fCr 11 11, hf' fCr 11 12])), [(fCr, 14, A3' fCr 14, lPd us tr pp qq z i nk ck (some ak) da sa V at' D.length D.length c c b.length (at' + D.length) a b (padB b (at' + D.length)))], fun _ _ => noC, fun F hF => C2' (hL F hF), fun F => ?_⟩
 refine Yj (f1' W us tr pp qq z i nk ck ak da sa V at' D.length c b.length (at' + D.length) a b (padB b (at' + D.length)) F) ⟨⟨?_, rfl, rfl, [(1001, 1101), (1002, 1102), (1003, 1103), (1004, 1104), (1005, 1105), (1010, 1106), (1011, 1107), (1012, 1108)], by kernel_rfl, by kernel_rfl, ⟨Ya, Ya, Ya, Ya, Ya, Ya, Ya, Ye⟩, ⟨_, rfl, Yc⟩, ⟨_, rfl, Yc⟩, ⟨_, rfl, Yc⟩, ⟨_, rfl, AQ' (A5' _ _) rfl⟩, ⟨_, rfl, AQ' (A5' _ _) rfl⟩, ⟨_, rfl, OW.of_eq (by simp only [AO.ren, AS'])⟩, ⟨_, rfl, Yc⟩, ⟨_, rfl, by rw [hpp]; exact Yc⟩, ⟨_, rfl, AQ' (by rw [hmin]; exact o5 _) rfl⟩, Ye⟩⟩
 simp only [ch', he, hbl, hbk, hv', hmin, hzw, Option.isSome_some, Option.getD_some, o1, o3, o6, o7, o8, true_and, and_true]; and_intros; all_goals first | (with_reducible exact Ye) | (with_reducible exact rfl) | (with_reducible exact Ya) | (with_reducible exact Yb) | (with_reducible exact Yc) | (with_reducible exact C6' hw) | (with_reducible exact A2' e1) | (with_reducible exact A2' e9) | (with_reducible exact A2' e7) | (with_reducible exact A2' e8) | exact Kc18'
theorem rd_T (W : World) (us tr : Int) (pp qq z nk ck : Nat) (ak : Addr) (da sa : Bs) (V : List Value) (i at' c : Nat) (a : Addr) (d b : Bs) (K : Rn W V z i at' a d b c) (hk : i < nk) (hv' : W.cell? (ak.add (i * 1)) = some (.bool true)) (hl : i + 1 = z) (ht : 0 <= tr) : RdS W us tr pp qq z nk ck (some ak) da sa V i b (E8' b at' (d.take tr.toNat)) := by
 obtain ⟨hi, zb, he, hd, hc, hb, hT⟩ := K; have e1 : decide (o' i < o' z) = true := ltTN hi; have hw := B8' i ω
 have hbl : i.blt z = true := by rw [bl']; exact hi
 have e9 : decide (o' i >= (nk : Int)) = false := decide_eq_false (by simp only [Z0]; omega)
 have hbk : i.blt nk = true := by rw [bl']; exact hk
 have hzw : IntKind.i64.wrap ((z : Int) - o' 1) = o' (z - 1) := by
  rw [IntWalk.i64_in _ (by simp only [Z0]; omega)]; simp only [Z0]; omega
 obtain ⟨D, hD⟩ : ∃ D, D = (d.take tr.toNat) := ⟨_, rfl⟩
 have hDB : BAt W.cell? (some a) D := by rw [hD]; exact hd.take _
 have hDl : D.length = min tr.toNat d.length := by rw [hD, List.length_take]
 have hDd : D.length <= d.length := ω
 rw [<- hD]
 have hpl : (padB b (at' + D.length)).length = at' + D.length := by rw [MD']; omega
 have hpp : (E8' b at' D).length = at' + D.length := HU' hb
 have hmin : D.length.min (at' + D.length - at') = D.length := by rw [Nat.add_sub_cancel_left]; exact Nat.min_self _
 obtain ⟨o1, o2⟩ := EB' hDB
 have o3 : (vmap (AM' W a (D.length * 1))).all AV.one = true := by rw [o2]; exact KD' D
 have o4 : ∀ σ : Nat -> Nat, (0 + at' * 1 + (vmap (AM' W a (D.length * 1))).length).ble (AV.rens σ (rowV encB (padB b (at' + D.length)))).length = true := fun σ => by
  rw [o2, A5', BS', BS', hpl]; exact AL' ω
 have o5 : ∀ σ : Nat -> Nat, splice (AV.rens σ (rowV encB (padB b (at' + D.length)))) (0 + at' * 1) (vmap (AM' W a (D.length * 1))) = rowV encB (E8' b at' D) := fun σ => by
  rw [o2, A5']; exact II' hb
 have o6 : at'.ble (at' + D.length) = true := AL' ω; have o7 : (at' + D.length).ble (at' + D.length) = true := AL' (Yd); have o8 : D.length.ble D.length = true := AL' (Yd); have e7 : (o' i == o' (z - 1)) = true := beq_iff_eq.2 (by congr 1; omega); have e8 : decide (tr >= o' 0) = true := decide_eq_true (by simp only [Z0]; omega)
 have e10 : (if tr < (d.length : Int) then tr else (d.length : Int)) = o' D.length := by simp only [Z0]; split <;> omega
 have e11 : D.length <= c := ω
 have hL := fun F (hF : AH' W F) => UI' us tr pp qq z i nk ck (some ak) da sa V at' D.length d.length c c a b ω ω F hF
 rw [hpl] at hL
 refine ⟨[], A6' (h8 at' a d.length c i ++ (h9 ++ [ht' fCr 11 7, ht' fCr 11 11, ht' fCr 11 12, (fCr, 12, 5, hv (iv (o' D.length))), (fCr, 12, 6, h0v (slV (some a) D.length c))])), [(fCr, 14, A3' fCr 14, lPd us tr pp qq z i nk ck (some ak) da sa V at' D.length d.length c c b.length (at' + D.length) a b (padB b (at' + D.length)))], fun _ _ => noC, fun F hF => C2' (hL F hF), fun F => ?_⟩
 refine Yj (eX' W us tr pp qq z i nk ck ak da sa V at' d.length D.length c b.length (at' + D.length) a b (padB b (at' + D.length)) F) ⟨⟨?_, rfl, rfl, [(1001, 1101), (1002, 1102), (1003, 1103), (1004, 1104), (1005, 1105), (1010, 1106), (1011, 1107), (1012, 1108)], by kernel_rfl, by kernel_rfl, ⟨Ya, Ya, Ya, Ya, Ya, Ya, Ya, Ye⟩, ⟨_, rfl, Yc⟩, ⟨_, rfl, Yc⟩, ⟨_, rfl, Yc⟩, ⟨_, rfl, AQ' (A5' _ _) rfl⟩, ⟨_, rfl, AQ' (A5' _ _) rfl⟩, ⟨_, rfl, OW.of_eq (by simp only [AO.ren, AS'])⟩, ⟨_, rfl, Yc⟩, ⟨_, rfl, by rw [hpp]; exact Yc⟩, ⟨_, rfl, AQ' (by rw [hmin]; exact o5 _) rfl⟩, Ye⟩⟩
 simp only [ch', he, hbl, hbk, hv', hmin, hzw, Option.isSome_some, Option.getD_some, o1, o3, o6, o7, o8, true_and, and_true]; and_intros; all_goals first | (with_reducible exact Ye) | (with_reducible exact rfl) | (with_reducible exact Ya) | (with_reducible exact Yb) | (with_reducible exact Yc) | (with_reducible exact C6' hw) | (with_reducible exact A2' e1) | (with_reducible exact A2' e9) | (with_reducible exact A2' e7) | (with_reducible exact A2' e8) | (with_reducible exact BG' e10) | exact Nat.zero_le _ | (with_reducible exact e11) | exact Kc18'
structure CrK (W : World) (ok : Option Addr) (kp : List Bool) (o : Nat) (xs : List Rs) (sa : Bs) : Prop where
 kp : KAt W ok kp
 pb : PB xs W.cell?
 pos : ∀ x ∈ xs, 0 < x.d.length
 sa : sa.length <= o
 sz : o + lenR xs <= 2199023255552
 zb : xs.length < 1099511627776
theorem J5' : ∀ (xs : List Rs) (i : Nat), lenR (xs.take i) <= lenR xs
 | [], i => by simp
 | x :: xs, 0 => by simp [lenR]
 | x :: xs, i + 1 => by rw [List.take_succ_cons, G5', G5']; have := J5' xs i; omega
theorem XY' {ok : Option Addr} {kp : List Bool} {o : Nat} {xs : List Rs} {sa : Bs} (K : CrK W ok kp o xs sa) (us tr : Int) (pp qq ck : Nat) (da sf : Bs) (i : Nat) (x : Rs) (hx : xs[i]? = some x) (b : Bs) (hb : b.length <= o + lenR (xs.take i)) :
  RdS W us tr pp qq xs.length kp.length ck ok da sf (pwV o xs) i b (if kp.getD i false = true then E8' b (o + lenR (xs.take i)) (dOf xs.length i tr x.d) else b) := by
 obtain ⟨hi, hxe⟩ := List.getElem?_eq_some_iff.1 hx; have hxm : x ∈ xs := List.mem_of_getElem? hx; have hp := K.pos x hxm; obtain ⟨hA, hC⟩ := K.pb x hxm; obtain ⟨b0, hb0⟩ := AY' hp; obtain ⟨a, ha, _⟩ := hA.2 0 b0 hb0
 have hsn : lenR (xs.take (i + 1)) = lenR (xs.take i) + x.d.length := by rw [B0' hx, O6']
 have hle := J5' xs (i + 1); have hsz := K.sz
 have hN : Rn W (pwV o xs) xs.length i (o + lenR (xs.take i)) a x.d b x.c := ⟨hi, K.zb, by rw [U4' xs o i x hx, ha], ha ▸ hA, hC, hb, by omega⟩
 by_cases hk : i < kp.length
 ·obtain ⟨k, hkk⟩ := AY' hk; obtain ⟨ak, rfl, hv⟩ := K.kp.at' i k hkk
  have hg : kp.getD i false = k := by rw [List.getD, hkk]; rfl
  rw [hg]
  cases k with
  | false =>
   rw [if_neg δ]; exact rd_N W us tr pp qq xs.length kp.length ck ak da sf (pwV o xs) i _ x.c a x.d b hN hk hv
  | true =>
   rw [if_pos rfl]
   by_cases hl : i + 1 = xs.length
   ·by_cases ht : 0 <= tr
    ·rw [dOf, if_pos ⟨hl, ht⟩]; exact rd_T W us tr pp qq xs.length kp.length ck ak da sf (pwV o xs) i _ x.c a x.d b hN hk hv hl ht
    ·rw [dOf, if_neg fun h => ht h.2]
     exact rd_C W us tr pp qq xs.length kp.length ck ak da sf (pwV o xs) i _ x.c a x.d b hN hk hv hl ω
   ·rw [dOf, if_neg fun h => hl h.1]
    exact rd_B W us tr pp qq xs.length kp.length ck ak da sf (pwV o xs) i _ x.c a x.d b hN hk hv hl
 ·have hg : kp.getD i false = false := by rw [List.getD, List.getElem?_eq_none ω]; rfl
  rw [hg, if_neg δ]; exact rd_A W us tr pp qq xs.length kp.length ck ok da sf (pwV o xs) i _ x.c a x.d b hN ω
theorem gG' {ok : Option Addr} {kp : List Bool} {o : Nat} {xs : List Rs} {sa : Bs} (K : CrK W ok kp o xs sa) (us tr : Int) (pp qq ck : Nat) (da sf R : Bs) (hR : crS kp tr xs.length o 0 sa (xs.map (·.d)) = R) :
  LTri Θ W (A3' fCr 7) (tms 0 120 (aCr xs.length 0)) (oC0 us pp qq da sf (pwV o xs) xs.length ok kp.length ck tr ++ oCr sa.length sa) (.exit 2) (tms 0 120 [(0, .ptr 0 0), (4, nilS), (5, .map 1011)]) (oC0 us pp qq da sf (pwV o xs) xs.length ok kp.length ck tr ++ oCr R.length R) := by
 refine B6' (W := W) (g := fCr) (b := A3' fCr 7) (σ := {s : Nat × Bs // s.1 <= xs.length /\ s.2.length <= o + lenR (xs.take s.1) /\ crS kp tr xs.length (o + lenR (xs.take s.1)) s.1 s.2 ((xs.drop s.1).map (·.d)) = R}) 120 (fun s => aCr xs.length s.1.1) (fun s => oC0 us pp qq da sf (pwV o xs) xs.length ok kp.length ck tr ++ oCr s.1.2.length s.1.2) (.exit 2) [(0, .ptr 0 0), (4, nilS), (5, .map 1011)] (oC0 us pp qq da sf (pwV o xs) xs.length ok kp.length ck tr ++ oCr R.length R) (fun s => xs.length - s.1.1) kCr ixC (by intro h; cases h) (fun _ => rfl) rfl ?_ ⟨(0, sa), Nat.zero_le _, by simpa [lenR] using K.sa, by simpa [lenR] using hR⟩
 rintro ⟨⟨i, b⟩, hi, hb, hS⟩; simp only at hi hb hS ⊢
 by_cases h1 : i < xs.length
 ·obtain ⟨x, hx⟩ := AY' h1; obtain ⟨con, hints, lc, c1, c2, c3⟩ := XY' K us tr pp qq ck da sf i x hx b hb
  have hsn : lenR (xs.take (i + 1)) = lenR (xs.take i) + x.d.length := by rw [B0' hx, O6']
  have hdr : xs.drop i = x :: xs.drop (i + 1) := by
   rw [List.drop_eq_getElem_cons h1]
   congr 1
   exact (List.getElem?_eq_some_iff.1 hx).2
  rw [hdr, List.map_cons, crS] at hS
  have hdl : (dOf xs.length i tr x.d).length <= x.d.length := by unfold dOf; split <;> simp [List.length_take]; omega
  generalize hb2 : (if kp.getD i false = true then E8' b (o + lenR (xs.take i)) (dOf xs.length i tr x.d) else b) = b2 at *
  have hbl2 : b2.length <= o + lenR (xs.take (i + 1)) := by
   rw [<- hb2, hsn]; split
   ·rw [HU' hb]; omega
   ·omega
  refine ⟨con, hints, lc, c1, c2, fun F => (c3 F).mono fun r os c ⟨q1, q2, q3⟩ => ⟨q1, .inl ⟨q2, ⟨(i + 1, b2), h1, hbl2, by rw [hsn, <- Nat.add_assoc]; exact hS⟩, B1' h1, q3⟩⟩⟩
 ·have hie : i = xs.length := ω
  subst hie; rw [List.drop_eq_nil_of_le (Yd)] at hS; have hbR : b = R := hS; subst hbR
  refine ⟨[], A6' [hf' fCr 7 0], [], fun _ _ => noC, fun _ _ => noL, fun F => ?_⟩
  refine Yj (f0' W us tr pp qq xs.length xs.length kp.length ck ok da sf (pwV o xs) b.length b F) ⟨⟨?_, rfl, .inr ⟨rfl, [(1001, 1001), (1002, 1002), (1003, 1003), (1004, 1004), (1005, 1005), (1010, 1010), (1011, 1011), (1012, 1012)], by kernel_rfl, by kernel_rfl, ⟨Ya, Ya, Ya, Ye⟩, ⟨_, rfl, Yc⟩, ⟨_, rfl, Yc⟩, ⟨_, rfl, Yc⟩, ⟨_, rfl, AQ' rfl rfl⟩, ⟨_, rfl, AQ' rfl rfl⟩, ⟨_, rfl, OW.of_eq (by simp only [AO.ren, AS'])⟩, ⟨_, rfl, Yc⟩, ⟨_, rfl, Yc⟩, ⟨_, rfl, AQ' rfl rfl⟩, Ye⟩⟩⟩
  simp only [ch', and_true]; exact A2' (ltFN (Yd))
end Go.Proofs.YtnnojnlejlokhaaGreatDoor.Wk
