/- Parts of the proof, merged. -/
import Derived.Test.YtgahllbgipdchaaGreatDoorWkp3
import Derived.Test.YtgahllbgipdchaaGreatDoorMem
import Derived.Deep.Slices
import Derived.SizedLaws
import Derived.Test.YtgahllbgipdchaaGreatDoorRows
import Derived.Deep.DeepHandedRow
import Derived.Lay
import Derived.ProofKit
import Derived.OpenShut
import Derived.Deep.Fields
import Derived.ChangeSame
noncomputable section
set_option linter.unusedVariables false
set_option linter.unusedSimpArgs false
set_option maxRecDepth 100000
set_option linter.unusedSectionVars false
namespace Go.Proofs.YtgahllbgipdchaaGreatDoor.Wk
open Go Go.RowKit Eng Kit Tree
open Int renaming ofNat -> o'
open Go.Value renaming int -> vi'
open AO renaming cells -> ce'
open AV renaming v -> v'
open AV renaming ptr -> pt'
open Cnd renaming holds -> ch'
open List renaming length_append -> la'
open List renaming append_assoc -> as'
open Go.Value renaming slice -> sl'
variable {W : World} {e : Nat} {C : Mem} {V0 : List Value}
theorem df_z : Tri Θ default fDf [nilS, .any] [] nilS [] := by
 refine AW' (con := []) (hints := AG' [hf' fIx 2 0, ht' fDf 2 1]) (lc := []) [] rfl (fun _ _ => noC) (fun F _ => noL) fun F => ?_
 refine Yj (X5' F) ⟨⟨?_, (B6' (vs' := [nilS]) (H' := []) [] rfl rfl (Yb) trivial).fits rfl⟩⟩; simp only [ch', and_true]; exact ⟨A3' rfl, A3' rfl⟩
theorem XT' (n : Nat) (R : Bs) (hn : n = R.length) (hb : n <= 2199023255552) (hp : 0 < n) : LTri Θ default (A8' fDo 4) (tms 0 58 aDo0) (oDo0 n R) (.exit 0) (tms 0 58 [(6, .ptr 1040 0)]) (oDo1 n R) := by
 refine BP' (W := default) (g := fDo) (b := A8' fDo 4) (σ := Bool) 58 (fun s => match s with | false => aDo0 | true => aDo1) (fun s => match s with | false => oDo0 n R | true => oDo1 n R) (.exit 0) [(6, .ptr 1040 0)] (oDo1 n R) (fun s => match s with | false => 1 | true => 0) kDo [6, 7, 14, 15, 16] (by intro h; cases h) (fun s => by cases s <;> rfl) rfl ?_ false; intro s
 cases s with
 | false =>
  have hcl := fun F => DY' (l := R) (by show _ <= 140737488351232; omega) ω F
  rw [<- hn] at hcl
  have hus : IntKind.i64.wrap (o' 0 + (n : Int)) = o' n := by
   rw [IntWalk.i64_in _ (by simp only [Z0]; omega)]; simp only [Z0]; omega
  refine ⟨[(fGn, cGn), (fCl, cClB n R)], AG' [ht' fDo 4 0, hf' fDo 6 3, hf' fDo 6 4, hf' fDo 8 3, hf' fDo 8 4, (fDo, 12, 7, hv (iv (o' n))), (fDo, 13, 0, hv (iv 1))], [], fun F hF => AJ' (RO' F) (C6' (hcl F)), fun _ _ => noL, fun F => ?_⟩
  refine Yj (X4' n R F) ⟨⟨?_, rfl, .inl ⟨rfl, true, Nat.lt_succ_self 0, [(1030, 1030), (1031, 1031), (1040, 1040), (1041, 1041), (1042, 1103), (1043, 1101), (1044, 1102)], by kernel_rfl, by kernel_rfl, ⟨Ya, Ya, Ya, Ya, Ya, Ye⟩, ⟨_, rfl, Yc⟩, ⟨_, rfl, AP' (A4' _ _) rfl⟩, ⟨_, rfl, Yc⟩, ⟨_, rfl, Yc⟩, ⟨_, rfl, Yc⟩, ⟨_, rfl, AP' (A4' _ _) rfl⟩, ⟨_, rfl, AP' (A4' _ _) rfl⟩, Ye⟩⟩⟩
  simp only [ch', true_and, and_true]; and_intros; all_goals first | (with_reducible exact Ye) | (with_reducible exact rfl) | (with_reducible exact Ya) | (with_reducible exact Yb) | (with_reducible exact AZ' hus) | exact IK' _ | exact .inl rfl | exact .inl trivial | exact A3' rfl | exact Ya | exact Kw15'
 | true =>
  refine ⟨[], AG' [hf' fDo 4 0], [], fun _ _ => noC, fun _ _ => noL, fun F => ?_⟩
  refine Yj (X3' n R F) ⟨⟨?_, rfl, .inr ⟨rfl, [(1030, 1030), (1031, 1031), (1040, 1040), (1041, 1041), (1042, 1042), (1043, 1043), (1044, 1044)], by kernel_rfl, by kernel_rfl, ⟨Ya, Ye⟩, ⟨_, rfl, Yc⟩, ⟨_, rfl, AP' rfl rfl⟩, ⟨_, rfl, Yc⟩, ⟨_, rfl, Yc⟩, ⟨_, rfl, Yc⟩, ⟨_, rfl, AP' rfl rfl⟩, ⟨_, rfl, AP' rfl rfl⟩, Ye⟩⟩⟩
  simp only [ch', and_true]; exact A3' rfl
theorem lDo_ok {W : World} (n : Nat) (R : Bs) (hn : n = R.length) (hb : n <= 2199023255552) (hp : 0 < n) (F : HP) : L1OK Θ F (A8' fDo 4) (lDo n R) :=
 CX' (W := default) CL' (fun args => by
  split
  ·refine RO.read _ _ fun o => ?_
   split <;> first | exact RO.ret _ | exact RO.fail _
  ·exact RO.fail _) (fun _ _ => XT' n R hn hb hp) fun _ => by
  simp only [RT.pick]; exact BX' rfl rfl (A0' rfl (A0' Ye (A0' rfl (A0' Ye (A0' Ye A2'))))) (A0' ⟨Ye, rfl, Ye⟩ (A0' (AS' _ _) (A0' ⟨rfl, Ye, Ye, Ye, Ye⟩ (A0' Ye A2')))) (A0' rfl A2') (A0' ⟨Ye, rfl, Ye⟩ (A0' (AS' _ _) (A0' ⟨rfl, Ye, Ye, Ye, Ye⟩ (A0' ⟨Ye, rfl, Ye⟩ (A0' ⟨rfl, rfl, Ye⟩ (A0' (AS' _ _) (A0' (AS' _ _) A2')))))))
def dFL (R : Bs) : LH := uD5 (o' R.length) R.length R.length R R
def dF (R : Bs) : AO := .own (.turns [1]) (exHP (fun _ : Unit => True) (fun _ => dFL R))
theorem do_f (R : Bs) (hb : R.length <= 2199023255552) (hp : 0 < R.length) : Tri Θ default fDo [.slice 1030 0 1 2 (.lo 1), iv 1099511627776] (outH R.length R) (.tuple [.ptr 1000 0, iv 0]) [(1000, dF R)] := by
 have hL := fun F => lDo_ok (W := default) R.length R rfl hb hp F
 refine AW' (con := []) (hints := BB') (lc := [(fDo, 4, A8' fDo 4, lDo R.length R)]) [1030, 1031, 1100, 1101, 1102, 1103, 1104, 1105, 1106, 1107, 1108, 1109, 1110] χ (fun _ _ => noC) (fun F _ => GF' (hL F)) fun F => ?_
 refine Yj (X2' R.length R F) ⟨⟨?_, [.tuple [.ptr 1000 0, iv 0]], [(1000, dkC nilS (o' R.length)), (1001, mpO 0 1), (1002, fiC R.length R.length), (1003, rB R), (1004, rB R)], [(1000, 1104), (1001, 1105), (1002, 1106), (1003, 1107), (1004, 1108)], by kernel_rfl, B6' (vs' := [.tuple [.ptr 1000 0, iv 0]]) (H' := [(1000, dkC nilS (o' R.length)), (1001, mpO 0 1), (1002, fiC R.length R.length), (1003, rB R), (1004, rB R)]) _ χ χ (Yb) ⟨⟨_, rfl, Yc⟩, ⟨_, rfl, Yc⟩, ⟨_, rfl, Yc⟩, ⟨_, rfl, AP' (A4' _ _) rfl⟩, ⟨_, rfl, AP' (A4' _ _) rfl⟩, Ye⟩, ?_⟩⟩
 ·clear hL
  simp only [ch', true_and, and_true]; and_intros; all_goals first | (with_reducible exact Ye) | (with_reducible exact rfl) | (with_reducible exact Yc) | exact rfl | exact Yc | exact Kw10'
 ·have := Goes.shutNew (vs := [.tuple [.ptr 1000 0, iv 0]]) (R := fun _ : Unit => True) (L := fun _ => dFL R) (m := .turns [1]) 1000 δ () trivial χ χ ⟨_, _, rfl, by kernel_rfl⟩ ⟨⟨rfl, Ye, Ye⟩, Ye⟩
  have e : renL 1000 (dFL R) = [(1000, dkC nilS (o' R.length)), (1001, mpO 0 1), (1002, fiC R.length R.length), (1003, rB R), (1004, rB R)] := by
   show [(1000, AO.ren _ (dkC nilS (o' R.length))), (1001, AO.ren _ (mpO mSt mCk)), (1002, AO.ren _ (fiC R.length R.length)), (1003, AO.ren _ (rB R)), (1004, AO.ren _ (rB R))] = _; rw [LQ']; rfl
  rwa [e] at this
theorem open_f {f : FuncId} {A : List AV} {v : AV} {R : Bs} {H' : LH} (h : Tri Θ W f A (dFL R) v H') : Tri Θ W f A [(0, dF R)] v H' :=
 Tri.open (R := fun _ : Unit => True) (L := fun _ => dFL R) (H0 := []) (fun _ => rfl) (fun _ => A0' ⟨rfl, Ye, Ye, Ye, Ye⟩ (A0' ⟨Ye, rfl, Ye⟩ (A0' ⟨rfl, rfl, Ye⟩ (A0' (AS' _ _) (A0' (AS' _ _) A2'))))) (fun _ => ⟨_, rfl⟩) fun _ _ => by rw [List.append_nil]; exact h
noncomputable section
def lgO (g e : Int) : AO := .cells [.ptr 0 0, sv nmL, iv g, iv e] tLg
def slR (m : Nat) : AV := .slice 1016 0 m 1 (.lo m)
def nm0 : List AV -> AP Nat := fun args => match args with | .slice i _ _ _ _ :: _ => .ret i | _ => .fail "row"
def cWh (n m e : Nat) (R : Bs) (O : AO) : List AV -> Option (AP AV) := mkC nm0 (fun _ => True) nmW (fun _ => [sB 0 n]) (fun _ => [(0, rB R)]) (fun _ => .leaf .ret [.tuple [.slice 1000 0 m 1 (.lo m), iv (o' e)]] [(0, rB R), (1000, O)])
def cClP (e : Nat) (R D : Bs) : List AV -> Option (AP AV) := mkC nm0 (fun _ => True) nmW (fun _ => [.slice 0 0 e 1 (.ex e)]) (fun _ => [(0, rB R)]) (fun _ => .leaf .ret [sB 1000 e] [(0, rB R), (1000, rB D)])
def cCl2 (n e : Nat) (R D : Bs) : List AV -> Option (AP AV) := fun args => match args with
 | [.slice _ _ _ _ (.ex _)] => cClP e R D args
 | _ => cClB n R args
def cDf : List AV -> Option (AP AV) := mkC (fun _ => .ret ()) (fun _ => True) (fun _ k => k) (fun _ => [nilS, .any]) (fun _ => []) (fun _ => .leaf .ret [nilS] [])
def cGe : G0' := [(fCx, cK [sv nm1, sv nmD] (.v (.tuple #[.string nmO, .bool true]))), (fAt, cK [sv nmO] (.v (.tuple #[.int .i64 1, .nilIface]))), (fIt, cK [iv 1] (sv nmO))]
def hGe : List (FuncId × Nat × Nat × Hint) := [(fGe, 1, 5, hv (sv nmD)), hf' fGe 3 1, hf' fGe 3 4, hf' fGe 3 8, hf' fGe 3 12, hf' fGe 3 19, (fFl, 1, 4, hv (sv nmD)), (fFl, 1, 7, hv (sv nm1)), hf' fGe 3 20]
def oDk (n : Nat) (R : Bs) : LH := [(0, dkC nilS (o' n)), (1001, mpO 0 1), (1002, fiC n n), (1003, rB R), (1004, rB R)]
def aOa0 : List (Nat × AV) := [(0, .ptr 0 0), (7, .ptr 1020 0), (8, nilS), (37, .slice 1015 0 1 1 (.lo 1)), (38, iv 1), (39, iv 0)]
def aOa1 (m : Nat) : List (Nat × AV) := [(0, .ptr 0 0), (7, .ptr 1020 0), (8, slR m), (37, .slice 1015 0 1 1 (.lo 1)), (38, iv 1), (39, iv 1)]
def oOa0 (n : Nat) (R : Bs) : LH := oDk n R ++ [(1015, .cells [sv nm1] tSt), (1020, lgO 0 0)]
def oOa1 (n e : Nat) (R : Bs) (O : AO) : LH := oDk n R ++ [(1015, .cells [sv nm1] tSt), (1016, O), (1020, lgO 1 (o' e))]
def kOa : List Nat := [0, 1001, 1002, 1003, 1004, 1015, 1016, 1020, 1100, 1101, 1102, 1103, 1104, 1105]
abbrev k55' : Cnd := ((ee' (s' nmL)).a ((f' (Wk (s' (nmL ++ ByteArray.mk (Array.mk [46]))) (s' nmD))).a (((p' True).a (f' (VW [s' nm1,s' nmD] [s' nm1,s' nmD]))).a (((p' True).a (f' (VW [s' nmO] [s' nmO]))).a ((f' (Wk (b' false) g')).a ((f' (Wk (b' false) g')).a ((f' (Wk (b' false) g')).a ((f' (Wk (b' false) g')).a (((ee' (s' nmL)).a ((f' (Wk (s' (nmL ++ ByteArray.mk (Array.mk [46]))) (s' nmD))).a (((p' True).a (f' (VW [i' 1] [i' 1]))).a ((f' (Wk (s' (nmD ++ nmO)) (s' nm1))).a t')))).a ((f' (Wk (b' false) g')).a ((f' (Wk g' g')).a t')))))))))))
theorem WM' (W : World) (n m e : Nat) (R : Bs) (O : AO) (F : HP) : B9' ((fWh, cWh n m e R O) :: (fCl, cClB n R) :: cGe) (AG' ([ht' fWo 6 0, hf' fWo 9 5, hf' fRd 2 1, ht' fWo 12 2, (fWo, 14, 0, hv (iv 1))] ++ hGe)) [] W fWo (A8' fWo 6) (tms 0 131 aOa0) (oOa0 n R) kOa [0, 7, 8, 37, 38, 39] F = VT.leaf (AX.normal,[pt' 0 0,pt' 1020 0,AV.slice 1101 0 m 1 (Cp.lo m),AV.slice 1015 0 1 1 (Cp.lo 1),i' 1,i' 1],131) [some (ce' [AV.map 1001,e',i' 1099511627776,i' n] 142),some (AO.map [(s' nm1,pt' 1002 0,0)] 1),some (ce' [AV.slice 1003 0 n 1 (Cp.lo n),AV.slice 1004 0 n 1 (Cp.lo n)] 148),some (ce' (AV.rens (sgN (fun k => match k with | 0 => 1003 | k => k) [1000] 1100) (rowV encB R)) 10),some (ce' (rowV encB R) 10),some (ce' [s' nm1] 18),none,some (ce' [pt' 0 0,s' nmL,i' 1,i' e] 154),some (ce' (AV.rens (sgN (nmW 1100) [1000] 1101) (rowV encB R)) 10),some (AO.ren (sgN (nmW 1100) [1000] 1101) O),none,none,none,none] 1102 (h11' (k28'.a (k55'.a (k31'.a (k6'.a (((fe' true).a ((f' (findKey Tryz.prog (envW [(34,cWh n m e R O),(30,cClB n R),(52,cK [s' nm1,s' nmD] (v' (Value.tuple (Array.mk [Value.string nmO,Value.bool true])))),(53,cK [s' nmO] (v' (Value.tuple (Array.mk [vi' IntKind.i64 (o' 1),Value.nilIface])))),(56,cK [i' 1] (s' nmO))] (AG' [(11,6,0,hv j'),(11,9,5,hv g'),(33,2,1,hv g'),(11,12,2,hv j'),(11,14,0,hv (i' 1)),(32,1,5,hv (s' nmD)),(32,3,1,hv g'),(32,3,4,hv g'),(32,3,8,hv g'),(32,3,12,hv g'),(32,3,19,hv g'),(37,1,4,hv (s' nmD)),(37,1,7,hv (s' nm1)),(32,3,20,hv g')]) [] W F) 9 (s' nm1) [(s' nm1,pt' 1002 0,0)] 0 = AP.ret (some (0,pt' 1002 0)))).a ((f' (Wk (b' false) g')).a ((fe' true).a (((Cnd.p True).a ((vw' [AV.slice 1003 0 n 1 (Cp.lo n)]).a (f' (OW (ce' (rowV encB R) 10) (ce' (AV.rens (fun k => match k with | 0 => 1003 | k => k) (rowV encB R)) 10))))).a t'))))).a (((Cnd.p True).a ((vw' [AV.slice 1100 0 n 1 (Cp.lo n)]).a (f' (OW (ce' (AV.rens (sgN (fun k => match k with | 0 => 1003 | k => k) [1000] 1100) (rowV encB R)) 10) (ce' (AV.rens (nmW 1100) (rowV encB R)) 10))))).a ((wb' (decide (↑m > o' 0)) j').a (k8'.a (k8'.a (k13'.a k1'))))))))))) := χ
theorem WL' (W : World) (n m e : Nat) (R : Bs) (O : AO) (F : HP) : B9' [] (AG' [hf' fWo 6 0]) [] W fWo (A8' fWo 6) (tms 0 131 (aOa1 m)) (oOa1 n e R O) kOa [0, 7, 8, 37, 38, 39] F = VT.leaf (AX.exit 0,[pt' 0 0,pt' 1020 0,AV.slice 1016 0 m 1 (Cp.lo m),AV.slice 1015 0 1 1 (Cp.lo 1),i' 1,i' 1],131) [some (ce' [AV.map 1001,e',i' 1099511627776,i' n] 142),some (AO.map [(s' nm1,pt' 1002 0,0)] 1),some (ce' [AV.slice 1003 0 n 1 (Cp.lo n),AV.slice 1004 0 n 1 (Cp.lo n)] 148),some (ce' (rowV encB R) 10),some (ce' (rowV encB R) 10),some (ce' [s' nm1] 18),some O,some (ce' [pt' 0 0,s' nmL,i' 1,i' e] 154),none,none,none,none,none,none] 1100 (k6'.a k1') := χ
def aOb (m i : Nat) : List (Nat × AV) := [(0, .ptr 0 0), (7, .ptr 1020 0), (8, slR m), (77, .slice 1015 0 1 1 (.lo 1)), (78, iv 1), (79, iv (o' i))]
theorem WK' (n m e : Nat) (R : Bs) (O : AO) (F : HP) : B9' cGe (AG' ([ht' fWo 16 0, ht' fWo 19 1, hf' fWo 19 8, hf' fWo 19 9, (fWo, 21, 0, hv (iv 1))] ++ hGe)) [] default fWo (A8' fWo 16) (tms 0 131 (aOb m 0)) (oOa1 n e R O) kOa [0, 7, 8, 77, 78, 79] F = VT.leaf (AX.normal,[pt' 0 0,pt' 1020 0,AV.slice 1016 0 m 1 (Cp.lo m),AV.slice 1015 0 1 1 (Cp.lo 1),i' 1,i' 1],131) [some (ce' [AV.map 1001,e',i' 1099511627776,i' n] 142),some (AO.map [(s' nm1,pt' 1002 0,0)] 1),some (ce' [AV.slice 1003 0 n 1 (Cp.lo n),AV.slice 1004 0 n 1 (Cp.lo n)] 148),some (ce' (rowV encB R) 10),some (ce' (rowV encB R) 10),some (ce' [s' nm1] 18),some O,some (ce' [pt' 0 0,s' nmL,i' 1,i' e] 154),none,none,none,none,none,none] 1100 (h11' (k28'.a (k55'.a (k22'.a (k27'.a (k6'.a (k41'.a (k13'.a k1')))))))) := χ
theorem WJ' (n m e : Nat) (R : Bs) (O : AO) (F : HP) : B9' [] (AG' [hf' fWo 16 0]) [] default fWo (A8' fWo 16) (tms 0 131 (aOb m 1)) (oOa1 n e R O) kOa [0, 7, 8, 77, 78, 79] F = VT.leaf (AX.exit 2,[pt' 0 0,pt' 1020 0,AV.slice 1016 0 m 1 (Cp.lo m),AV.slice 1015 0 1 1 (Cp.lo 1),i' 1,i' 1],131) [some (ce' [AV.map 1001,e',i' 1099511627776,i' n] 142),some (AO.map [(s' nm1,pt' 1002 0,0)] 1),some (ce' [AV.slice 1003 0 n 1 (Cp.lo n),AV.slice 1004 0 n 1 (Cp.lo n)] 148),some (ce' (rowV encB R) 10),some (ce' (rowV encB R) 10),some (ce' [s' nm1] 18),some O,some (ce' [pt' 0 0,s' nmL,i' 1,i' e] 154),none,none,none,none,none,none] 1100 (k6'.a k1') := χ
def gOp (x8 x37 : Nat) (tmps : List AV) : AP (List (Nat × Nat)) := match tmps.getD 7 .any, tmps.getD x37 .any with
 | .ptr i 0, .slice j _ _ _ _ => .read 0 fun o => match o with
  | .cells [.map m, _, _, _] _ => .read m fun o => match o with
   | .map [(_, .ptr f 0, _)] _ => .read f fun o => match o with
    | .cells [.slice x _ _ _ _, .slice y _ _ _ _] _ => match tmps.getD x8 .any with
     | .slice q _ _ _ _ => .ret [(1001, m), (1002, f), (1003, x), (1004, y), (1020, i), (1015, j), (1016, q)]
     | _ => .ret [(1001, m), (1002, f), (1003, x), (1004, y), (1020, i), (1015, j)]
    | _ => .fail "file"
   | _ => .fail "files"
  | _ => .fail "disk"
 | _, _ => .fail "log"
def lOa (n m e : Nat) (R : Bs) (O : AO) : List AV -> AP (AX × List AV) := mkL (gOp 8 37) (fun _ => True) nmF (fun _ => tms 0 131 aOa0) (fun _ => oOa0 n R) (fun _ => .leaf (.exit 0) (tms 0 131 [(0, .ptr 0 0), (7, .ptr 1020 0), (8, slR m)]) (oDk n R ++ [(1016, O), (1020, lgO 1 (o' e))]))
def lOb (n m e : Nat) (R : Bs) (O : AO) : List AV -> AP (AX × List AV) := mkL (gOp 8 77) (fun _ => True) nmF (fun _ => tms 0 131 (aOb m 0)) (fun _ => oOa1 n e R O) (fun _ => .leaf (.exit 2) (tms 0 131 [(0, .ptr 0 0), (7, .ptr 1020 0), (8, slR m)]) (oDk n R ++ [(1016, O), (1020, lgO 1 (o' e))]))
def kOp : List Nat := [0, 1001, 1002, 1003, 1004, 1100, 1101, 1102, 1103, 1104, 1105, 1106, 1107, 1108, 1109, 1110, 1111, 1112, 1113, 1114, 1115, 1116, 1117, 1118, 1119, 1120, 1121, 1122, 1123, 1124, 1125]
abbrev k56' (q0 q1 q2 : Nat) : Cnd := (ow' (ce' [AV.slice q0 0 q1 1 (Cp.lo q1),AV.slice q2 0 q1 1 (Cp.lo q1)] 148))
abbrev k57' (q0 q1 : Nat) : Cnd := (ow' (ce' [AV.map q0,e',i' 1099511627776,i' q1] 142))
theorem WI' (W : World) (n m e : Nat) (R D : Bs) (O : AO) (F : HP) : wRun [(fGn, cGn), (fCt, cK [sv nmL, sv nmP] (bv false)), (fSo, cSo), (fIt, cK [iv 1] (sv nmO)), (fCl, cCl2 n e R D), (fDf, cDf)] (AG' [hf' fWo 1 2, hf' fWo 1 6, hf' fWo 1 11, ht' fWo 22 4, (fFl, 1, 4, hv (sv nmD)), (fFl, 1, 7, hv (sv nm1)), hf' fCu 2 1, hf' fCu 4 1, hf' fCu 4 9, hf' fCu 4 10, (fCu, 6, 10, hv (iv (o' (n - e)))), (fCu, 6, 11, hv (iv (o' e)))]) [(fWo, 6, A8' fWo 6, lOa n m e R O), (fWo, 16, A8' fWo 16, lOb n m e R O)] W fWo [.ptr 0 0, sv nmL] (oDk n R) kOp F = VT.leaf (AV.tuple [pt' 1116 0,AV.slice 1115 0 m 1 (Cp.lo m),i' 0]) [some (ce' [AV.map 1111,e',i' 1099511627776,i' e] 142),none,none,none,none,none,some (ce' [AV.map 1001] 136),none,none,none,none,none,none,none,some (ce' [AV.map 1103] 136),none,some (AO.map [(s' nm1,pt' 1112 0,0)] 1),some (ce' [AV.slice 1113 0 e 1 (Cp.ex e),AV.slice 1117 0 e 1 (Cp.lo e)] 148),some (ce' (AV.rens (sgN (nmW 1113) [1000] 1117) (rowV encB R)) 10),some (ce' (AV.rens (sgN (nmF [(1001,1103),(1002,1104),(1003,1105),(1004,1106),(1020,1108),(1015,1110),(1016,1107)]) [1001,1002,1003,1004,1016,1020] 1111) (rowV encB R)) 10),some (AO.ren (sgN (nmF [(1001,1103),(1002,1104),(1003,1105),(1004,1106),(1020,1108),(1015,1110),(1016,1107)]) [1001,1002,1003,1004,1016,1020] 1111) O),some (ce' [pt' 0 0,s' nmL,i' 1,i' e] 154),some (ce' (AV.rens (sgN (nmW 1113) [1000] 1117) (rowV encB D)) 10),some (ce' [s' nm1] 18),none,none,none,none,none,none,none] 1119 (k34'.a (k6'.a (k6'.a (k33'.a (k6'.a (k32'.a ((p' ((fWo,6,A8' fWo 6,lOa n m e R O).snd.snd.fst = (fWo,6,A8' fWo 6,lOa n m e R O).snd.snd.fst)).a (k4'.a ((p' (VW (pt' 0 0::s' nmL::u'::u'::v' (Value.pointer none)::e'::i' 0::pt' 1100 0::e'::ru8 (u'::u'::u'::s' nmL::b' true::g'::g'::s' nmL::i' 3::g'::g'::g'::s' nmL::b' false::g'::pt' 0 0::s' nmL::AV.agg [pt' 0 0,s' nmL,i' 0,i' 0]::pt' 1100 0::pt' 0 0::AV.slice 1102 0 1 1 (Cp.lo 1)::i' 1::i' 0::ru16 (ru16 (ru16 (ru16 (ru16 (ru8 (u'::u'::u'::[])))))))) (pt' 0 0::ra4 (a'::a'::pt' 1100 0::e'::ra16 (ra8 (ra4 (AV.slice 1102 0 1 1 (Cp.lo 1)::i' 1::i' 0::ra16 (ra16 (ra16 (ra16 (ra16 (ra8 (a'::a'::a'::[]))))))))))))).a ((k57' 1001 n).a ((k54' 1002).a ((k56' 1003 n 1004).a ((p' (OW (ce' (rowV encB R) 10) (ce' (AV.rens (nmF [(1001,1001),(1002,1002),(1003,1003),(1004,1004),(1020,1100),(1015,1102)]) (rowV encB R)) 10))).a ((p' (OW (ce' (rowV encB R) 10) (ce' (AV.rens (nmF [(1001,1001),(1002,1002),(1003,1003),(1004,1004),(1020,1100),(1015,1102)]) (rowV encB R)) 10))).a (k45'.a ((ow' (ce' [pt' 0 0,s' nmL,i' 0,i' 0] 154)).a (k32'.a ((p' ((fWo,16,A8' fWo 16,lOb n m e R O).snd.snd.fst = (fWo,16,A8' fWo 16,lOb n m e R O).snd.snd.fst)).a (k4'.a ((p' (VW (pt' 0 0::ra4 (a'::a'::pt' 1108 0::AV.slice 1107 0 m 1 (Cp.lo m)::ra16 (ra16 (ra16 (ra16 (a'::a'::a'::pt' 0 0::AV.slice 1110 0 1 1 (Cp.lo 1)::i' 1::i' 0::ra16 (ra16 (ra16 (a'::a'::a'::[]))))))))) (pt' 0 0::ra4 (a'::a'::pt' 1108 0::AV.slice 1107 0 m 1 (Cp.lo m)::ra16 (ra16 (ra16 (ra16 (ra4 (AV.slice 1110 0 1 1 (Cp.lo 1)::i' 1::i' 0::ra16 (ra16 (ra16 (a'::a'::a'::[])))))))))))).a ((k57' 1103 n).a ((k54' 1104).a ((k56' 1105 n 1106).a ((p' (OW (ce' (AV.rens (sgN (nmF [(1001,1001),(1002,1002),(1003,1003),(1004,1004),(1020,1100),(1015,1102)]) [1001,1002,1003,1004,1016,1020] 1103) (rowV encB R)) 10) (ce' (AV.rens (nmF [(1001,1103),(1002,1104),(1003,1105),(1004,1106),(1020,1108),(1015,1110),(1016,1107)]) (rowV encB R)) 10))).a ((p' (OW (ce' (AV.rens (sgN (nmF [(1001,1001),(1002,1002),(1003,1003),(1004,1004),(1020,1100),(1015,1102)]) [1001,1002,1003,1004,1016,1020] 1103) (rowV encB R)) 10) (ce' (AV.rens (nmF [(1001,1103),(1002,1104),(1003,1105),(1004,1106),(1020,1108),(1015,1110),(1016,1107)]) (rowV encB R)) 10))).a (k45'.a ((p' (OW (AO.ren (sgN (nmF [(1001,1001),(1002,1002),(1003,1003),(1004,1004),(1020,1100),(1015,1102)]) [1001,1002,1003,1004,1016,1020] 1103) O) (AO.ren (nmF [(1001,1103),(1002,1104),(1003,1105),(1004,1106),(1020,1108),(1015,1110),(1016,1107)]) O))).a ((ow' (ce' [pt' 0 0,s' nmL,i' 1,i' e] 154)).a (k27'.a (k22'.a (k27'.a (((ee' (s' nmL)).a ((f' (Wk (s' (nmL ++ ByteArray.mk (Array.mk [46]))) (s' nmD))).a (((Cnd.p True).a (f' (VW [i' 1] [i' 1]))).a ((f' (Wk (s' (nmD ++ nmO)) (s' nm1))).a t')))).a ((k36' e).a (((fe' true).a ((f' (findKey Tryz.prog (envW [(29,cGn),(31,cK [s' nmL,s' nmP] (b' false)),(49,cSo),(56,cK [i' 1] (s' nmO)),(30,cCl2 n e R D),(74,cDf)] (AG' [(11,1,2,hv g'),(11,1,6,hv g'),(11,1,11,hv g'),(11,22,4,hv j'),(37,1,4,hv (s' nmD)),(37,1,7,hv (s' nm1)),(36,2,1,hv g'),(36,4,1,hv g'),(36,4,9,hv g'),(36,4,10,hv g'),(36,6,10,hv (i' (n - e))),(36,6,11,hv (i' e))]) [(11,6,A8' 11 6,lOa n m e R O),(11,16,A8' 11 16,lOb n m e R O)] W F) 9 (s' nm1) [(s' nm1,pt' 1112 0,0)] 0 = AP.ret (some (0,pt' 1112 0)))).a ((f' (Wk (b' false) g')).a ((f' (Wk (b' false) g')).a ((fe' true).a ((wb' (decide (o' e > ↑n)) g').a ((f' (Wk g' g')).a ((ee' (i' n)).a ((fe' true).a ((f' (Wk (z' (IntKind.i64.wrap (↑n - o' e))) (i' (n - e)))).a ((f' (Wk (z' (IntKind.i64.wrap (o' n - o' (n - e)))) (i' e))).a ((fe' true).a ((fe' true).a ((tt'.a ((p' (e.ble e = true)).a (f' (e.ble n = true)))).a ((fe' true).a ((fe' true).a (((Cnd.p True).a ((vw' [AV.slice 1113 0 e 1 (Cp.ex e)]).a (f' (OW (ce' (AV.rens (sgN (nmF [(1001,1103),(1002,1104),(1003,1105),(1004,1106),(1020,1108),(1015,1110),(1016,1107)]) [1001,1002,1003,1004,1016,1020] 1111) (rowV encB R)) 10) (ce' (AV.rens (nmW 1113) (rowV encB R)) 10))))).a ((fe' true).a (((fe' true).a (((Cnd.p True).a (f' (VW [e',AV.func (Fn.func 75) [] [pt' 1118 0]] [e',a']))).a ((fe' true).a t'))).a t'))))))))))))))))))).a k1')))))))))))))))))))))))))))))))))) := χ
end
theorem SF' : ∀ (n : Nat) (b : Bs), b.length <= n -> (cat (AH' b)).length <= b.length := by
 intro n
 induction n with
 | zero =>
  intro b hb; have : b = [] := List.length_eq_zero_iff.1 ω; subst this; rw [BL' rfl]; exact Nat.zero_le _
 | succ n ih =>
  intro b hb
  cases hu : unwB b with
  | none => rw [BL' hu]; exact Nat.zero_le _
  | some d =>
   have hl := IC' hu; have := ih (b.drop (8 + d.length)) (by rw [List.length_drop]; omega); rw [List.length_drop] at this; rw [GC' hu, DX', la', B3']; omega
theorem U5' : ∀ args, RO (nm0 args) := fun args => by unfold nm0; split <;> first | exact RO.ret _ | exact RO.fail _
theorem cWh_ok (hN : LN W) {R : Bs} (hsz : R.length <= 1099511627776) (hw : AH' R ≠ []) (F : HP) (hF : AL' W F) : C1OK Θ F fWh (cWh R.length (AH' R).length (cat (AH' R)).length R (rbO (AH' R))) := by
 have hp : 0 < R.length := by
  cases R with
  | nil => exact absurd (BL' rfl) hw
  | cons x r => exact Nat.succ_pos _
 exact BD' hF (fun _ => .tuple [.slice 1000 0 (AH' R).length 1 (.lo (AH' R).length), iv (o' (cat (AH' R)).length)]) U5' (fun _ => rfl) (fun _ _ => QT' W hN (pre := []) (H' := [(1000, rbO (AH' R))]) (by show _ <= 140737488351232; omega) hp rfl (fun i o h => by
  simp only [getO] at h ⊢
  by_cases e : i = 1000
  ·subst e; exact ⟨δ, by simp⟩
  ·rw [if_neg e] at h; cases h) fun W' hN' oa c h hc => UX' W' hN' oa c R h hc hsz hw) fun _ => ⟨rfl, rfl, ⟨rfl, Ye⟩, A0' (AS' _ _) A2', ⟨⟨rfl, Ye, Ye⟩, Ye⟩, A0' (AS' _ _) (A0' Ye A2')⟩
theorem PF' {N : A7'} {k n sz : Nat} {cp : Cp} {y : Value} (h : VR N (.slice k 0 n sz cp) y) : ∃ l x c, N k = some l /\ y = .slice (some ⟨l.blk, x, none⟩) n c /\ (0 < n -> x = l.off) := by
 simp only [VR] at h; obtain ⟨l, x, c, h1, h2, h3, h4, h5, h6⟩ := h
 refine ⟨l, x, c, h1, h2, fun hn => ?_⟩
 rcases h3 with h3 | h3
 ·rw [h3, Nat.add_zero]
 ·omega
theorem VE' {N : A7'} {k : Nat} {D : Nat -> Prop} {w : World} {l : Bs} {cp : Cp} {y : Value} (hb : l.length <= big) (he : e <= l.length) (hp : 0 < e) (ho : OR N k (rB l) D w) (h : VR N (.slice k 0 e 1 cp) y) : ∃ a c, y = .slice (some a) e c /\ BAt w.cell? (some a) (l.take e) := by
 obtain ⟨lo, x, c, h1, rfl, h3⟩ := PF' h
 rw [show rB l = .cells (vmap (l.map fun b => .int .u8 b.toNat)) (2 * 5) by rw [rB, GY']] at ho
 obtain ⟨lo', h1', h0, h2⟩ := J7' ho; rw [h1] at h1'; cases h1'
 refine ⟨_, _, rfl, ⟨Nat.le_trans (by rw [List.length_take]; omega) hb, fun i b hi => ⟨_, rfl, ?_⟩⟩⟩
 rw [List.getElem?_take] at hi; split at hi
 ·rw [h3 hp, h0, Nat.mul_one]; have hq := h2 i (.int .u8 b.toNat) (by rw [List.getElem?_map, hi]; rfl)
  have e : ((Addr.mk lo.blk 0 none).add i) = Addr.mk lo.blk i none := by
   unfold Addr.add; split
   ·rename_i hi; subst hi; rfl
   ·show Addr.mk lo.blk (0 + i) none = _; rw [Nat.zero_add]
  rw [e]; exact (EQ' hq).2
 ·cases hi
theorem XX' (W : World) {R : Bs} (hb : R.length <= big) (he : e <= R.length) (hp : 0 < e) : Tri Θ W fCl [.slice 0 0 e 1 (.ex e)] [(0, rB R)] (sB 1000 e) [(0, rB R), (1000, rB (R.take e))] := by
 refine N6' (H := [(0, rB R)]) (H' := [(1000, rB (R.take e))]) rfl rfl (fun i o h => by
  simp only [getO] at h ⊢
  by_cases e : i = 1000
  ·subst e; exact ⟨δ, by simp⟩
  ·rw [if_neg e] at h; cases h) fun W0 F N w vargs hF hNB r ha => ?_
 obtain ⟨y, r1, q1, q2, eq⟩ := ha; have q2 : r1 = [] := q2; subst q2; obtain ⟨D, hO⟩ := r.obj (i := 0) (o := rB R) (by rw [AD' χ]; rfl); obtain ⟨a, c, rfl, hB⟩ := VE' hb he hp hO q1; refine ⟨_, eq, ?_⟩
 have hl : (R.take e).length = e := by rw [List.length_take]; omega
 have := RM' w (some a) c (R.take e) hB ω; rw [hl] at this; exact this
theorem Y6' {R : Bs} (hb : R.length <= big) (he : e <= R.length) (hp : 0 < e) (F : HP) (hF : AL' W F) : C1OK Θ F fCl (cCl2 R.length e R (R.take e)) := by
 have c1 : C1OK Θ F fCl (cClP e R (R.take e)) := BD' hF (fun _ => sB 1000 e) U5' (fun _ => rfl) (fun _ _ => XX' W hb he hp) fun _ => ⟨rfl, rfl, ⟨rfl, Ye⟩, A0' (AS' _ _) A2', ⟨rfl, Ye⟩, A0' (AS' _ _) (A0' (AS' _ _) A2')⟩
 have c2 := DY' (l := R) hb ω F; intro st W0 N hh w args vargs v h' n n' lg lg' cc p q1 q2 q3 q4 q5 q6; unfold cCl2 at q1; split at q1
 ·exact c1 st W0 N hh w _ vargs v h' n n' lg lg' cc p q1 q2 q3 q4 q5 q6
 ·exact c2 st W0 N hh w _ vargs v h' n n' lg lg' cc p q1 q2 q3 q4 q5 q6
theorem cDf_ok (F : HP) : C1OK Θ F fDf cDf :=
 BD' (W := default) CL' (fun _ => nilS) (fun _ => RO.ret _) (fun _ => rfl) (fun _ _ => df_z) fun _ => ⟨rfl, rfl, ⟨Ye, Ye, Ye⟩, A2', ⟨Ye, Ye⟩, A2'⟩
theorem UN' (F : HP) : ∀ x ∈ cGe, C1OK Θ F x.1 x.2 :=
 AJ' (GI' (cx_tri _) (fun K => ⟨Ye, Ye, Ye⟩) (fun K => trivial) F) (AJ' (GI' (at_tri _) (fun K => ⟨Ye, Ye⟩) (fun K => trivial) F) (C6' (GI' (IY' _) (fun K => ⟨Ye, Ye⟩) (fun K => trivial) F)))
theorem VM' (W : World) (n m e : Nat) (R : Bs) (O : AO) (hm : 0 < m) (hO : ∀ σ, O.ren σ = O) (hW : ∀ F, AL' W F -> C1OK Θ F fWh (cWh n m e R O)) (hC : ∀ F, C1OK Θ F fCl (cClB n R)) :
  LTri Θ W (A8' fWo 6) (tms 0 131 aOa0) (oOa0 n R) (.exit 0) (tms 0 131 [(0, .ptr 0 0), (7, .ptr 1020 0), (8, slR m)]) (oDk n R ++ [(1016, O), (1020, lgO 1 (o' e))]) := by
 refine BP' (W := W) (g := fWo) (b := A8' fWo 6) (σ := Bool) 131 (fun s => match s with | false => aOa0 | true => aOa1 m) (fun s => match s with | false => oOa0 n R | true => oOa1 n e R O) (.exit 0) [(0, .ptr 0 0), (7, .ptr 1020 0), (8, slR m)] (oDk n R ++ [(1016, O), (1020, lgO 1 (o' e))]) (fun s => match s with | false => 1 | true => 0) kOa [0, 7, 8, 37, 38, 39] (by intro h; cases h) (fun s => by cases s <;> rfl) rfl ?_ false; intro s
 cases s with
 | false =>
  have hm' : decide ((m : Int) > o' 0) = true := decide_eq_true (by simp only [Z0]; omega)
  refine ⟨(fWh, cWh n m e R O) :: (fCl, cClB n R) :: cGe, AG' ([ht' fWo 6 0, hf' fWo 9 5, hf' fRd 2 1, ht' fWo 12 2, (fWo, 14, 0, hv (iv 1))] ++ hGe), [], fun F hF => AJ' (hW F hF) (AJ' (hC F) (UN' F)), fun _ _ => noL, fun F => ?_⟩
  refine Yj (WM' W n m e R O F) ⟨⟨?_, rfl, .inl ⟨rfl, true, Nat.lt_succ_self 0, [(1001, 1001), (1002, 1002), (1003, 1003), (1004, 1004), (1015, 1015), (1016, 1101), (1020, 1020)], by kernel_rfl, by kernel_rfl, ⟨Ya, Ya, Ya, Ya, Ya, Ya, Ye⟩, ⟨_, rfl, Yc⟩, ⟨_, rfl, Yc⟩, ⟨_, rfl, Yc⟩, ⟨_, rfl, AP' (A4' _ _) rfl⟩, ⟨_, rfl, AP' rfl rfl⟩, ⟨_, rfl, Yc⟩, ⟨_, rfl, OW.of_eq (by rw [hO, hO])⟩, ⟨_, rfl, Yc⟩, Ye⟩⟩⟩
  simp only [ch', true_and, and_true]; and_intros; all_goals first | (with_reducible exact Ye) | (with_reducible exact rfl) | (with_reducible exact Ya) | (with_reducible exact Yb) | (with_reducible exact A3' hm') | exact A3' rfl | exact Ya | exact Yb | exact Kw15'
 | true =>
  refine ⟨[], AG' [hf' fWo 6 0], [], fun _ _ => noC, fun _ _ => noL, fun F => ?_⟩
  refine Yj (WL' W n m e R O F) ⟨⟨?_, rfl, .inr ⟨rfl, [(1001, 1001), (1002, 1002), (1003, 1003), (1004, 1004), (1016, 1016), (1020, 1020)], by kernel_rfl, by kernel_rfl, ⟨Ya, Ya, Ya, Ye⟩, ⟨_, rfl, Yc⟩, ⟨_, rfl, Yc⟩, ⟨_, rfl, Yc⟩, ⟨_, rfl, AP' rfl rfl⟩, ⟨_, rfl, AP' rfl rfl⟩, ⟨_, rfl, OW.of_eq (hO _).symm⟩, ⟨_, rfl, Yc⟩, Ye⟩⟩⟩
  simp only [ch', and_true]; exact A3' rfl
theorem VL' (n m e : Nat) (R : Bs) (O : AO) (hO : ∀ σ, O.ren σ = O) :
  LTri Θ default (A8' fWo 16) (tms 0 131 (aOb m 0)) (oOa1 n e R O) (.exit 2) (tms 0 131 [(0, .ptr 0 0), (7, .ptr 1020 0), (8, slR m)]) (oDk n R ++ [(1016, O), (1020, lgO 1 (o' e))]) := by
 refine BP' (W := default) (g := fWo) (b := A8' fWo 16) (σ := Bool) 131 (fun s => match s with | false => aOb m 0 | true => aOb m 1) (fun _ => oOa1 n e R O) (.exit 2) [(0, .ptr 0 0), (7, .ptr 1020 0), (8, slR m)] (oDk n R ++ [(1016, O), (1020, lgO 1 (o' e))]) (fun s => match s with | false => 1 | true => 0) kOa [0, 7, 8, 77, 78, 79] (by intro h; cases h) (fun s => rfl) rfl ?_ false; intro s
 cases s with
 | false =>
  refine ⟨cGe, AG' ([ht' fWo 16 0, ht' fWo 19 1, hf' fWo 19 8, hf' fWo 19 9, (fWo, 21, 0, hv (iv 1))] ++ hGe), [], fun F hF => UN' F, fun _ _ => noL, fun F => ?_⟩
  refine Yj (WK' n m e R O F) ⟨⟨?_, rfl, .inl ⟨rfl, true, Nat.lt_succ_self 0, [(1001, 1001), (1002, 1002), (1003, 1003), (1004, 1004), (1015, 1015), (1016, 1016), (1020, 1020)], by kernel_rfl, by kernel_rfl, ⟨Ya, Ya, Ya, Ya, Ya, Ya, Ye⟩, ⟨_, rfl, Yc⟩, ⟨_, rfl, Yc⟩, ⟨_, rfl, Yc⟩, ⟨_, rfl, AP' rfl rfl⟩, ⟨_, rfl, AP' rfl rfl⟩, ⟨_, rfl, Yc⟩, ⟨_, rfl, OW.of_eq (hO _).symm⟩, ⟨_, rfl, Yc⟩, Ye⟩⟩⟩
  simp only [ch', true_and, and_true]; and_intros; all_goals first | (with_reducible exact Ye) | (with_reducible exact rfl) | (with_reducible exact Ya) | (with_reducible exact Yb) | exact A3' rfl | exact Ya | exact Yb | exact rfl
 | true =>
  refine ⟨[], AG' [hf' fWo 16 0], [], fun _ _ => noC, fun _ _ => noL, fun F => ?_⟩
  refine Yj (WJ' n m e R O F) ⟨⟨?_, rfl, .inr ⟨rfl, [(1001, 1001), (1002, 1002), (1003, 1003), (1004, 1004), (1016, 1016), (1020, 1020)], by kernel_rfl, by kernel_rfl, ⟨Ya, Ya, Ya, Ye⟩, ⟨_, rfl, Yc⟩, ⟨_, rfl, Yc⟩, ⟨_, rfl, Yc⟩, ⟨_, rfl, AP' rfl rfl⟩, ⟨_, rfl, AP' rfl rfl⟩, ⟨_, rfl, OW.of_eq (hO _).symm⟩, ⟨_, rfl, Yc⟩, Ye⟩⟩⟩
  simp only [ch', and_true]; exact A3' rfl
theorem UE' (x8 x37 : Nat) : ∀ args, RO (gOp x8 x37 args) := fun args => by
 unfold gOp; split
 ·refine RO.read _ _ fun o => ?_
  split
  ·refine RO.read _ _ fun o => ?_
   split
   ·refine RO.read _ _ fun o => ?_
    split
    ·split <;> exact RO.ret _
    ·exact RO.fail _
   ·exact RO.fail _
  ·exact RO.fail _
 ·exact RO.fail _
theorem lOa_ok (n m e : Nat) (R : Bs) (O : AO) (hm : 0 < m) (hO : ∀ σ, O.ren σ = O) (cO : ∀ K, O.cl K) (hW : ∀ F, AL' W F -> C1OK Θ F fWh (cWh n m e R O)) (hC : ∀ F, C1OK Θ F fCl (cClB n R)) (F : HP) (hF : AL' W F) : L1OK Θ F (A8' fWo 6) (lOa n m e R O) :=
 CX' hF (UE' _ _) (fun _ _ => VM' W n m e R O hm hO hW hC) fun _ => by
  simp only [RT.pick]
  exact BX' rfl rfl (A0' rfl (A0' rfl (A0' Ye (A0' rfl (A0' Ye (A0' Ye A2'))))))
   (A0' ⟨rfl, Ye, Ye, Ye, Ye⟩ (A0' ⟨Ye, rfl, Ye⟩ (A0' ⟨rfl, rfl, Ye⟩ (A0' (AS' _ _) (A0' (AS' _ _) (A0' ⟨Ye, Ye⟩ (A0' ⟨rfl, Ye, Ye, Ye, Ye⟩ A2')))))))
   (A0' rfl (A0' rfl (A0' rfl A2')))
   (A0' ⟨rfl, Ye, Ye, Ye, Ye⟩ (A0' ⟨Ye, rfl, Ye⟩ (A0' ⟨rfl, rfl, Ye⟩ (A0' (AS' _ _) (A0' (AS' _ _) (A0' (cO _) (A0' ⟨rfl, Ye, Ye, Ye, Ye⟩ A2')))))))
theorem lOb_ok {W : World} (n m e : Nat) (R : Bs) (O : AO) (hO : ∀ σ, O.ren σ = O) (cO : ∀ K, O.cl K) (F : HP) : L1OK Θ F (A8' fWo 16) (lOb n m e R O) :=
 CX' (W := default) CL' (UE' _ _) (fun _ _ => VL' n m e R O hO) fun _ => by
  simp only [RT.pick]
  exact BX' rfl rfl (A0' rfl (A0' rfl (A0' rfl (A0' rfl (A0' Ye (A0' Ye A2'))))))
   (A0' ⟨rfl, Ye, Ye, Ye, Ye⟩ (A0' ⟨Ye, rfl, Ye⟩ (A0' ⟨rfl, rfl, Ye⟩ (A0' (AS' _ _) (A0' (AS' _ _) (A0' ⟨Ye, Ye⟩ (A0' (cO _) (A0' ⟨rfl, Ye, Ye, Ye, Ye⟩ A2'))))))))
   (A0' rfl (A0' rfl (A0' rfl A2')))
   (A0' ⟨rfl, Ye, Ye, Ye, Ye⟩ (A0' ⟨Ye, rfl, Ye⟩ (A0' ⟨rfl, rfl, Ye⟩ (A0' (AS' _ _) (A0' (AS' _ _) (A0' (cO _) (A0' ⟨rfl, Ye, Ye, Ye, Ye⟩ A2')))))))
theorem op_run (W : World) (n m e : Nat) (R D : Bs) (O : AO) (hm : 0 < m) (he : e <= n) (hz : n <= 2199023255552) (hO : ∀ σ, O.ren σ = O) (cO : ∀ K, O.cl K) (hW : ∀ F, AL' W F -> C1OK Θ F fWh (cWh n m e R O)) (hC : ∀ F, C1OK Θ F fCl (cClB n R)) (hC2 : ∀ F, AL' W F -> C1OK Θ F fCl (cCl2 n e R D)) :
  Tri Θ W fWo [.ptr 0 0, sv nmL] (oDk n R) (.tuple [.any, slR m, iv 0]) [(1016, O)] := by
 have q1 := fun F hF => lOa_ok (W := W) n m e R O hm hO cO hW hC F hF
 have q2 := fun F => lOb_ok (W := W) n m e R O hO cO F
 have f1 : decide (o' e < o' 0) = false := decide_eq_false (by simp only [Z0]; omega); have f2 : decide (o' e > (n : Int)) = false := decide_eq_false (by simp only [Z0]; omega)
 have f3 : IntKind.i64.wrap ((n : Int) - o' e) = o' (n - e) := by
  rw [IntWalk.i64_in _ (by simp only [Z0]; omega)]; simp only [Z0]; omega
 have f4 : IntKind.i64.wrap (o' n - o' (n - e)) = o' e := by
  rw [IntWalk.i64_in _ (by simp only [Z0]; omega)]; simp only [Z0]; omega
 have f5 : e.ble n = true := AM' he; have f6 : e.ble e = true := AM' (Yd)
 refine AW' (con := [(fGn, cGn), (fCt, cK [sv nmL, sv nmP] (bv false)), (fSo, cSo), (fIt, cK [iv 1] (sv nmO)), (fCl, cCl2 n e R D), (fDf, cDf)]) (hints := AG' [hf' fWo 1 2, hf' fWo 1 6, hf' fWo 1 11, ht' fWo 22 4, (fFl, 1, 4, hv (sv nmD)), (fFl, 1, 7, hv (sv nm1)), hf' fCu 2 1, hf' fCu 4 1, hf' fCu 4 9, hf' fCu 4 10, (fCu, 6, 10, hv (iv (o' (n - e)))), (fCu, 6, 11, hv (iv (o' e)))]) (lc := [(fWo, 6, A8' fWo 6, lOa n m e R O), (fWo, 16, A8' fWo 16, lOb n m e R O)]) kOp χ (fun F hF => AJ' (RO' F) (AJ' (GI' (UL' _) (fun K => ⟨Ye, Ye, Ye⟩) (fun K => trivial) F) (AJ' (P3' F) (AJ' (GI' (IY' _) (fun K => ⟨Ye, Ye⟩) (fun K => trivial) F) (AJ' (hC2 F hF) (C6' (cDf_ok F))))))) (fun F hF x hx => by
  rcases List.mem_cons.1 hx with rfl | hx
  ·exact q1 F hF
  ·obtain rfl := List.mem_singleton.1 hx
   exact q2 F) fun F => ?_
 refine Yj (WI' W n m e R D O F) ⟨⟨?_, (B6' (vs' := [.tuple [.any, slR m, iv 0]]) (H' := [(1016, O)]) [(1016, 1115)] χ χ (VW.cons (TZ' (VW.cons (Wk.any _) (Yb))) (Yb)) ⟨⟨_, rfl, OW.of_eq (by rw [hO, hO])⟩, Ye⟩).fits χ⟩⟩; clear q1 q2 hW hC hC2
 simp only [ch', true_and, and_true, hO, f5, f6]; and_intros; all_goals first | (with_reducible exact Ye) | (with_reducible exact rfl) | (with_reducible exact Ya) | (with_reducible exact Yb) | (with_reducible exact Yc) | (with_reducible exact A3' f1) | (with_reducible exact A3' f2) | (with_reducible exact AZ' f3) | (with_reducible exact AZ' f4) | exact .inr rfl | exact .inr trivial | exact A3' rfl | exact Ya | exact Yc | exact rfl | exact Kw10'
theorem wo_f (W : World) (hN : LN W) (R : Bs) (hz : R.length <= 1099511627776) (hw : AH' R ≠ []) : Tri Θ W fWo [.ptr 0 0, sv nmL] [(0, dF R)] (.tuple [.any, slR (AH' R).length, iv 0]) [(1016, rbO (AH' R))] := by
 have hm : 0 < (AH' R).length := List.length_pos_iff.2 hw
 have hb : R.length <= big := by show _ <= 140737488351232; omega
 have he := SF' R.length R (Yd)
 have he0 : 0 < (cat (AH' R)).length := by
  cases hc : AH' R with
  | nil => exact absurd hc hw
  | cons x r => rw [DX', la', B3']; omega
 refine open_f ?_; exact op_run W R.length (AH' R).length (cat (AH' R)).length R (R.take (cat (AH' R)).length) (rbO (AH' R)) hm he ω (fun σ => rfl) (fun K => trivial) (fun F hF => cWh_ok hN hz hw F hF) (fun F => DY' hb ω F) (fun F hF => Y6' hb he he0 F hF)
noncomputable section
abbrev fSm : Nat := 13
def slQ (i m : Nat) : AV := .slice i 0 m 1 (.lo m)
def aSm (m i : Nat) : List (Nat × AV) := [(0, slQ 0 m), (1, slQ 1 m), (5, iv (o' i))]
def oSm (U V : List Value) : LH := [(0, .cells (vmap U) tRb), (1, .cells (vmap V) tRb)]
def hSm (i n p q : Nat) (oa ob : Option Addr) (s : Δ) : BK' := AG' [ht' fSm 4 3, (fSm, 6, 3, hv (slV oa n p)), (fSm, 6, 4, ht s), (fSm, 6, 8, hv (slV ob n q)), (fSm, 6, 9, ht s), hf' fSm 6 10, (fSm, 5, 1, hv (iv (o' (i + 1))))]
abbrev h58' (q0 : Δ) (q1 : Nat) (z : Cnd) : Cnd := ((f' (Wk (v' (Value.bool !q0.toList == q0.toList)) g')).a ((f' (Wk (z' (IntKind.i64.wrap (o' q1 + o' 1))) (i' (q1 + 1)))).a z))
abbrev h59' (q0 q1 : Nat) (q2 : List Value) (q3 : Addr) (q4 q5 : Nat) (z : Cnd) : Cnd := ((f' (q0.blt q1 = true)).a (((p' ((0 + q0 * 1).blt (vmap q2).length = true)).a (f' (Wk ((vmap q2).getD (0 + q0 * 1) (u')) (v' (sl' (some q3) q4 q5))))).a z))
abbrev k60' (q0 q1 : Nat) : Cnd := (wb' (decide (o' q0 < ↑q1)) j')
theorem W4' (W : World) (m i n p q : Nat) (a b : Addr) (s : Δ) (U V : List Value) (F : HP) : B9' [] (hSm i n p q (some a) (some b) s) [] W fSm (A8' fSm 4) (tms 0 28 (aSm m i)) (oSm U V) [0, 1] [0, 1, 5] F = VT.leaf (AX.normal,[AV.slice 0 0 m 1 (Cp.lo m),AV.slice 1 0 m 1 (Cp.lo m),i' (i + 1)],28) [some (ce' (vmap U) 98),some (ce' (vmap V) 98)] 1100 ((k60' i m).a (h59' i m U a n p ((f' (s.size = n /\ ∀ (j : Nat),j < s.size -> (envW [] (hSm i n p q (some a) (some b) s) [] W F).W.cell? (a.add j) = some (vi' IntKind.u8 ↑(s.data.toList.getD j 0).toNat))).a (h59' i m V b n q ((f' (s.size = n /\ ∀ (j : Nat),j < s.size -> (envW [] (hSm i n p q (some a) (some b) s) [] W F).W.cell? (b.add j) = some (vi' IntKind.u8 ↑(s.data.toList.getD j 0).toNat))).a (h58' s i k1')))))) := χ
abbrev h61' (q0 q1 : Nat) (q2 : List Value) (q3 q4 : Nat) (q5 : Δ) (z : Cnd) : Cnd := ((f' (q0.blt q1 = true)).a (((p' ((0 + q0 * 1).blt (vmap q2).length = true)).a (f' (Wk ((vmap q2).getD (0 + q0 * 1) (u')) (v' (sl' none q3 q4))))).a ((f' (q5 = ByteArray.empty)).a z)))
theorem W3' (W : World) (m i n p q : Nat) (a : Addr) (s : Δ) (U V : List Value) (F : HP) : B9' [] (hSm i n p q (some a) none s) [] W fSm (A8' fSm 4) (tms 0 28 (aSm m i)) (oSm U V) [0, 1] [0, 1, 5] F = VT.leaf (AX.normal,[AV.slice 0 0 m 1 (Cp.lo m),AV.slice 1 0 m 1 (Cp.lo m),i' (i + 1)],28) [some (ce' (vmap U) 98),some (ce' (vmap V) 98)] 1100 ((k60' i m).a (h59' i m U a n p ((f' (s.size = n /\ ∀ (j : Nat),j < s.size -> (envW [] (hSm i n p q (some a) none s) [] W F).W.cell? (a.add j) = some (vi' IntKind.u8 ↑(s.data.toList.getD j 0).toNat))).a (h61' i m V n q s (h58' s i k1'))))) := χ
theorem W2' (W : World) (m i n p q : Nat) (b : Addr) (s : Δ) (U V : List Value) (F : HP) : B9' [] (hSm i n p q none (some b) s) [] W fSm (A8' fSm 4) (tms 0 28 (aSm m i)) (oSm U V) [0, 1] [0, 1, 5] F = VT.leaf (AX.normal,[AV.slice 0 0 m 1 (Cp.lo m),AV.slice 1 0 m 1 (Cp.lo m),i' (i + 1)],28) [some (ce' (vmap U) 98),some (ce' (vmap V) 98)] 1100 ((k60' i m).a (h61' i m U n p s (h59' i m V b n q ((f' (s.size = n /\ ∀ (j : Nat),j < s.size -> (envW [] (hSm i n p q none (some b) s) [] W F).W.cell? (b.add j) = some (vi' IntKind.u8 ↑(s.data.toList.getD j 0).toNat))).a (h58' s i k1'))))) := χ
theorem W1' (W : World) (m i n p q : Nat) (s : Δ) (U V : List Value) (F : HP) : B9' [] (hSm i n p q none none s) [] W fSm (A8' fSm 4) (tms 0 28 (aSm m i)) (oSm U V) [0, 1] [0, 1, 5] F = VT.leaf (AX.normal,[AV.slice 0 0 m 1 (Cp.lo m),AV.slice 1 0 m 1 (Cp.lo m),i' (i + 1)],28) [some (ce' (vmap U) 98),some (ce' (vmap V) 98)] 1100 ((k60' i m).a (h61' i m U n p s (h61' i m V n q s (h58' s i k1')))) := χ
theorem W0' (W : World) (m i : Nat) (U V : List Value) (F : HP) : B9' [] (AG' [hf' fSm 4 3]) [] W fSm (A8' fSm 4) (tms 0 28 (aSm m i)) (oSm U V) [0, 1] [0, 1, 5] F = VT.leaf (AX.exit 0,[AV.slice 0 0 m 1 (Cp.lo m),AV.slice 1 0 m 1 (Cp.lo m),i' i],28) [some (ce' (vmap U) 98),some (ce' (vmap V) 98)] 1100 ((wb' (decide (o' i < ↑m)) g').a k1') := χ
def lSm (m : Nat) (U V : List Value) : List AV -> AP (AX × List AV) := mkL (fun _ => .ret ()) (fun _ => True) (fun _ k => k) (fun _ => tms 0 28 (aSm m 0)) (fun _ => oSm U V) (fun _ => .leaf (.exit 0) (tms 0 28 []) (oSm U V))
abbrev k62' (q0 : List Value) : Cnd := (p' (OW (ce' (vmap q0) 98) (ce' (AV.rens (fun k => k) (vmap q0)) 98)))
theorem VZ' (W : World) (m : Nat) (U V : List Value) (F : HP) : wRun [] (AG' [hf' fSm 1 4]) [(fSm, 4, A8' fSm 4, lSm m U V)] W fSm [slQ 0 m, slQ 1 m] (oSm U V) [0, 1] F = VT.leaf (b' true) [some (ce' (AV.rens (sgN (fun k => k) [] 0) (vmap U)) 98),some (ce' (AV.rens (sgN (fun k => k) [] 0) (vmap V)) 98)] 1100 ((wb' ((↑m : Int) != ↑m) g').a ((p' ((fSm,4,A8' fSm 4,lSm m U V).snd.snd.fst = (fSm,4,A8' fSm 4,lSm m U V).snd.snd.fst)).a (k4'.a ((p' (VW (AV.slice 0 0 m 1 (Cp.lo m)::AV.slice 1 0 m 1 (Cp.lo m)::u'::u'::b' false::i' 0::AV.slice 0 0 m 1 (Cp.lo m)::z' ↑m::AV.slice 1 0 m 1 (Cp.lo m)::z' ↑m::g'::ru16 (u'::[])) (AV.slice 0 0 m 1 (Cp.lo m)::AV.slice 1 0 m 1 (Cp.lo m)::a'::a'::a'::i' 0::ra16 (ra4 (a'::a'::[]))))).a ((k62' U).a ((k62' V).a k1')))))) := χ
end
def RowT (C : Mem) (V : List Value) (ls : List Bs) : Prop := ∀ (i : Nat) (l : Bs), ls[i]? = some l -> ∃ (oa : Option Addr) (c : Nat), V[i]? = some (sl' oa l.length c) /\ BAt C oa l
theorem RowT.mono {C' : Mem} (h : ∀ a v, C a = some v -> C' a = some v) {V : List Value} {ls : List Bs} (hr : RowT C V ls) : RowT C' V ls := fun i l hl => by
 obtain ⟨oa, c, h1, h2⟩ := hr i l hl; exact ⟨oa, c, h1, h2.mono h⟩
theorem QB' {V : List Value} {i : Nat} {x : Value} (h : V[i]? = some x) : (0 + i * 1).blt (vmap V).length = true /\ (vmap V).getD (0 + i * 1) AV.undef = .v x := by
 obtain ⟨h1, h2⟩ := List.getElem?_eq_some_iff.1 h; rw [Nat.mul_one, Nat.zero_add]; refine ⟨by rw [Nat.blt_eq, BF']; exact h1, ?_⟩; simp [vmap, List.getD, h]
theorem QE' {a : Addr} {l : Bs} (h : BAt W.cell? (some a) l) : (ByteArray.mk ⟨l⟩).size = l.length /\ ∀ j, j < (ByteArray.mk ⟨l⟩).size -> W.cell? (a.add j) = some (.int .u8 (((ByteArray.mk ⟨l⟩).data.toList.getD j 0).toNat : Int)) := by
 refine ⟨rfl, fun j hj => ?_⟩
 have hj : j < l.length := hj; obtain ⟨b, hb⟩ := BU' hj; obtain ⟨a', e, q⟩ := h.2 j b hb; obtain rfl := Option.some.inj e; rw [Nat.mul_one] at q; show _ = some (vi' .u8 ((l.getD j 0).toNat : Int)); rw [q, List.getD, hb]; rfl
theorem OG' {l : Bs} (h : BAt C none l) : l = [] := by
 cases l with
 | nil => rfl
 | cons x r => obtain ⟨a, e, _⟩ := h.2 0 x rfl; cases e
theorem V8' (W : World) (m : Nat) (U V : List Value) (ls : List Bs) (hm : ls.length = m) (hmb : m < 9223372036854775807) (hU : RowT W.cell? U ls) (hV : RowT W.cell? V ls) :
  LTri Θ W (A8' fSm 4) (tms 0 28 (aSm m 0)) (oSm U V) (.exit 0) (tms 0 28 []) (oSm U V) := by
 refine BP' (W := W) (g := fSm) (b := A8' fSm 4) (σ := {i : Nat // i <= m}) 28 (fun i => aSm m i.1) (fun _ => oSm U V) (.exit 0) [] (oSm U V) (fun i => m - i.1) [0, 1] [0, 1, 5] (by intro h; cases h) (fun _ => rfl) rfl ?_ ⟨0, Nat.zero_le _⟩; rintro ⟨i, hi⟩; simp only
 have oU : ∀ l : List (Nat × Nat), ∃ o, some (ce' (vmap U) tRb) = some o /\ OW o ((ce' (vmap U) tRb).ren (sg l)) := fun l => ⟨_, rfl, OW.of_eq (by simp only [AO.ren, AK'])⟩
 have oV : ∀ l : List (Nat × Nat), ∃ o, some (ce' (vmap V) tRb) = some o /\ OW o ((ce' (vmap V) tRb).ren (sg l)) := fun l => ⟨_, rfl, OW.of_eq (by simp only [AO.ren, AK'])⟩
 by_cases h1 : i < m
 ·obtain ⟨l, hl⟩ := BU' (l := ls) (i := i) ω; obtain ⟨oa, p, u1, u2⟩ := hU i l hl; obtain ⟨ob, q, v1, v2⟩ := hV i l hl; obtain ⟨u3, u4⟩ := QB' u1; obtain ⟨v3, v4⟩ := QB' v1; have e1 : decide (o' i < (m : Int)) = true := ltTN h1; have hw := BQ' i ω
  have hbl : i.blt m = true := by rw [Nat.blt_eq]; exact h1
  have hne : (!(ByteArray.mk ⟨l⟩).toList == (ByteArray.mk ⟨l⟩).toList) = false := by simp
  refine ⟨[], hSm i l.length p q oa ob ⟨⟨l⟩⟩, [], fun _ _ => noC, fun _ _ => noL, fun F => ?_⟩
  cases oa with
  | none =>
   have hle := OG' u2
   have hs : (ByteArray.mk ⟨l⟩) = ByteArray.empty := by rw [hle]; rfl
   cases ob with
   | none =>
    refine Yj (W1' W m i l.length p q ⟨⟨l⟩⟩ U V F) ⟨⟨?_, rfl, .inl ⟨rfl, ⟨i + 1, h1⟩, C8' h1, [], by kernel_rfl, by kernel_rfl, ⟨Ya, Ya, Ya, Ye⟩, oU _, oV _, Ye⟩⟩⟩
    simp only [ch', hbl, u3, u4, v3, v4, true_and, and_true]; and_intros; all_goals first | (with_reducible exact CK' hw) | (with_reducible exact A3' e1) | (with_reducible exact A3' hne) | (with_reducible exact Ya) | exact hs | exact A3' hne | exact Ya
   | some b =>
    have tb := QE' v2
    refine Yj (W2' W m i l.length p q b ⟨⟨l⟩⟩ U V F) ⟨⟨?_, rfl, .inl ⟨rfl, ⟨i + 1, h1⟩, C8' h1, [], by kernel_rfl, by kernel_rfl, ⟨Ya, Ya, Ya, Ye⟩, oU _, oV _, Ye⟩⟩⟩
    simp only [ch', hbl, u3, u4, v3, v4, true_and, and_true]; and_intros; all_goals first | (with_reducible exact CK' hw) | (with_reducible exact A3' e1) | (with_reducible exact A3' hne) | (with_reducible exact Ya) | exact hs | exact tb.1 | exact tb.2 | exact A3' hne | exact Ya
  | some a =>
   have ta := QE' u2
   cases ob with
   | none =>
    have hle := OG' v2
    have hs : (ByteArray.mk ⟨l⟩) = ByteArray.empty := by rw [hle]; rfl
    refine Yj (W3' W m i l.length p q a ⟨⟨l⟩⟩ U V F) ⟨⟨?_, rfl, .inl ⟨rfl, ⟨i + 1, h1⟩, C8' h1, [], by kernel_rfl, by kernel_rfl, ⟨Ya, Ya, Ya, Ye⟩, oU _, oV _, Ye⟩⟩⟩
    simp only [ch', hbl, u3, u4, v3, v4, true_and, and_true]; and_intros; all_goals first | (with_reducible exact CK' hw) | (with_reducible exact A3' e1) | (with_reducible exact A3' hne) | (with_reducible exact Ya) | exact hs | exact ta.1 | exact ta.2 | exact A3' hne | exact Ya
   | some b =>
    have tb := QE' v2
    refine Yj (W4' W m i l.length p q a b ⟨⟨l⟩⟩ U V F) ⟨⟨?_, rfl, .inl ⟨rfl, ⟨i + 1, h1⟩, C8' h1, [], by kernel_rfl, by kernel_rfl, ⟨Ya, Ya, Ya, Ye⟩, oU _, oV _, Ye⟩⟩⟩
    simp only [ch', hbl, u3, u4, v3, v4, true_and, and_true]; and_intros; all_goals first | (with_reducible exact CK' hw) | (with_reducible exact A3' e1) | (with_reducible exact A3' hne) | (with_reducible exact Ya) | exact ta.1 | exact ta.2 | exact tb.2 | exact A3' hne | exact Ya
 ·have hie : i = m := ω
  subst hie
  refine ⟨[], AG' [hf' fSm 4 3], [], fun _ _ => noC, fun _ _ => noL, fun F => ?_⟩
  refine Yj (W0' W i i U V F) ⟨⟨?_, rfl, .inr ⟨rfl, [], by kernel_rfl, by kernel_rfl, Ye, oU _, oV _, Ye⟩⟩⟩
  simp only [ch', and_true]; exact A3' (ltFN (Yd))
theorem sm_run (W : World) (m : Nat) (U V : List Value) (ls : List Bs) (hm : ls.length = m) (hmb : m < 9223372036854775807) (hU : RowT W.cell? U ls) (hV : RowT W.cell? V ls) : Tri Θ W fSm [slQ 0 m, slQ 1 m] (oSm U V) (bv true) [] := by
 have hL : ∀ F, AL' W F -> L1OK Θ F (A8' fSm 4) (lSm m U V) := fun F hF =>
  CX' hF (fun _ => RO.ret _) (fun _ _ => V8' W m U V ls hm hmb hU hV) fun _ => by
   simp only [RT.pick]; exact BX' rfl rfl (A0' rfl (A0' rfl (A0' Ye A2'))) (A0' (B1' _ _) (A0' (B1' _ _) A2')) A2' (A0' (B1' _ _) (A0' (B1' _ _) A2'))
 refine AW' (con := []) (hints := AG' [hf' fSm 1 4]) (lc := [(fSm, 4, A8' fSm 4, lSm m U V)]) [0, 1] rfl (fun F _ => noC) (fun F hF => GF' (hL F hF)) fun F => ?_
 have hmm : (((m : Int)) != (m : Int)) = false := by simp
 refine Yj (VZ' W m U V F) ⟨⟨?_, (B6' (vs' := [bv true]) (H' := []) [] rfl rfl (Yb) trivial).fits rfl⟩⟩
 simp only [ch', true_and, and_true]; and_intros; all_goals first | (with_reducible exact A3' hmm) | (with_reducible exact Ye) | (with_reducible exact rfl) | exact rfl | (refine OW.of_eq ?_; simp only [AO.ren, AK']; done) | ((repeat (first | exact VW.nil | refine VW.cons (Wk.any _) ?_ | refine VW.cons Ya ?_)); done)
theorem QP' {r : List Rs} (h : PB r C) : RowT C (rwV r) (r.map (·.d)) := fun i l hl => by
 rw [List.getElem?_map] at hl
 cases hr : r[i]? with
 | none => rw [hr] at hl; cases hl
 | some x =>
  rw [hr] at hl; cases hl
  exact ⟨x.a, x.c, by rw [rwV, List.getElem?_map, hr]; rfl, (h x (List.mem_of_getElem? hr)).at'⟩
theorem sm_tri (W : World) (V : List Value) (ls : List Bs) (hmb : ls.length < 9223372036854775807) (hV : RowT W.cell? V ls) : Tri Θ W fSm [slQ 0 ls.length, slQ 1 ls.length] [(0, rbO ls), (1, .cells (vmap V) tRb)] (bv true) [] := by
 refine Tri.open (R := fun r : List Rs => r.map (·.d) = ls) (L := rbL) (H0 := [(1, .cells (vmap V) tRb)]) (fun _ => χ) (fun r => A0' (B1' _ _) (A0' Ye A2')) (fun _ => ⟨_, rfl⟩) fun r hr => ?_
 have h := QG' (P := Θ) (W := W) (f := fSm) (A := [slQ 0 ls.length, slQ 1 ls.length]) (H1 := oSm (rwV r) V) (H1' := []) (v := bv true) (PR := PB r) 1009 δ rfl rfl χ rfl ⟨rfl, rfl, Ye⟩ (A0' (B1' _ _) (A0' (B1' _ _) A2')) (fun C C' h hP => hP.mono h)
  (fun W' hW hP => sm_run W' ls.length (rwV r) V ls rfl hmb (hr ▸ QP' hP) (hV.mono hW))
 refine Tri.pre ?_ (Tri.post h (H6' χ rfl (Yb) (fun i o h => by cases h) ⟨Ye, Ye⟩ A2')); refine H6' χ χ (Yb) (fun i o h => ?_) ⟨rfl, rfl, Ye⟩ (A0' (B1' _ _) (A0' (B1' _ _) (A0' Ye A2'))); simp only [oSm, rbL, List.cons_append, List.nil_append, getO] at h ⊢
 by_cases e0 : i = 0
 ·simpa [e0] using h
 ·by_cases e1 : i = 1
  ·subst e1; simpa using h
  ·by_cases e2 : i = 1009
   ·subst e2; simpa using h
   ·simp [e0, e1, e2] at h
noncomputable section
abbrev fCn : Nat := 22
abbrev fKp : Nat := 4
theorem XG' (W : World) (a : Addr) (n c : Nat) (F : HP) : wRun [] (AG' [(fCn, 1, 2, h0)]) [] W fCn [slV (some a) n c] [] [] F = VT.leaf (AV.slice 1100 0 0 1 (Cp.ex 0)) [] 1101 ((f' (n = 0)).a k1') := χ
theorem XF' (W : World) (a : Addr) (n c : Nat) (F : HP) : wRun [] BB' [] W fCn [slV (some a) n c] [] [1100, 1101, 1102, 1103] F = VT.leaf (AV.slice 1101 0 (0 + n) 1 (Cp.lo (0 + n))) [some (ce' (rep [v' (vi' IntKind.u8 (o' 0))] 0) 10),some (ce' ([] ++ vmap (AN' W a (n * 1))) 10),none,none] 1102 ((k5' n W a).a k1') := χ
theorem XE' (W : World) (c : Nat) (F : HP) : wRun [] (AG' [(fCn, 1, 2, h0)]) [] W fCn [slV none 0 c] [] [] F = VT.leaf (AV.slice 1100 0 0 1 (Cp.ex 0)) [] 1101 (k15'.a k1') := χ
def lgA (d : Nat) (sz : Int) : AO := .cells [.ptr d 0, sv nmL, iv 1, iv sz] tLg
def cCnM (oa : Option Addr) (n c : Nat) : List AV -> Option (AP AV) := mkC (fun _ => .ret ()) (fun _ => True) (fun _ k => k) (fun _ => [slV oa n c]) (fun _ => []) (fun _ => .leaf .ret [.mt] [])
def cCnO (oa : Option Addr) (n c : Nat) (r : Bs) : List AV -> Option (AP AV) := mkC (fun _ => .ret ()) (fun _ => True) (fun _ k => k) (fun _ => [slV oa n c]) (fun _ => []) (fun _ => .leaf .ret [sB 1000 n] [(1000, rB r)])
def gAp : List AV -> AP (Nat × Nat × Nat) := fun args => match args with
 | [.ptr l 0, .slice j _ _ _ _] => .read l fun o => match o with
  | .cells (.ptr d 0 :: _) _ => .ret (d, l, j)
  | _ => .fail "log"
 | [.ptr l 0, _] => .read l fun o => match o with
  | .cells (.ptr d 0 :: _) _ => .ret (d, l, 0)
  | _ => .fail "log"
 | _ => .fail "log"
def nmA (p : Nat × Nat × Nat) (k : Nat) : Nat := match k with
 | 0 => p.1
 | 2 => p.2.1
 | 4 => p.2.2
 | k => k
def cApO (sz sz' : Int) (m : Nat) (r : Bs) (D D' : AO) : List AV -> Option (AP AV) := mkC gAp (fun _ => True) nmA (fun _ => [.ptr 2 0, sB 4 m]) (fun _ => [(0, D), (2, lgC sz), (4, rB r)]) (fun _ => .leaf .ret [iv 0] [(0, D'), (2, lgC sz'), (4, rB r)])
def cApM (sz sz' : Int) (D D' : AO) : List AV -> Option (AP AV) := mkC gAp (fun _ => True) nmA (fun _ => [.ptr 2 0, .mt]) (fun _ => [(0, D), (2, lgC sz)]) (fun _ => .leaf .ret [iv 0] [(0, D'), (2, lgC sz')])
def oLk (D : AO) (sz tr : Int) (V : List Value) (ok : Option Addr) (nk ck : Nat) : LH := [(1050, D), (1051, lgA 1050 sz), (1052, .cells (vmap V) tRb), (1053, PO' ok nk ck tr)]
def slA (k : Nat) : AV := .slice 1052 0 k 1 (.lo k)
def a1 (o1 o2 : Option Addr) (n1 c1 n2 c2 k i : Nat) : List (Nat × AV) := [(0, slV o1 n1 c1), (1, slV o2 n2 c2), (5, .ptr 1053 0), (7, .ptr 1050 0), (9, .ptr 1051 0), (10, slA k), (40, slV o1 n1 c1), (41, iv (o' n1)), (42, iv (o' i))]
def a2 (o1 o2 : Option Addr) (n1 c1 n2 c2 k i : Nat) : List (Nat × AV) := [(0, slV o1 n1 c1), (5, .ptr 1053 0), (7, .ptr 1050 0), (9, .ptr 1051 0), (10, slA k), (61, slV o2 n2 c2), (62, iv (o' n2)), (63, iv (o' i))]
def ix1 : List Nat := [0, 1, 5, 7, 9, 10, 40, 41, 42]
def ix2 : List Nat := [0, 5, 7, 9, 10, 61, 62, 63]
def kLk : List Nat := [1050, 1051, 1052, 1053, 1100, 1101, 1102, 1103, 1104, 1105, 1106]
def hL1 (oa : Option Addr) (n c i : Nat) : BK' := AG' [ht' fKp 10 0, (fKp, 11, 1, hv (slV oa n c)), hf' fKp 12 4, (fKp, 15, 0, hv (iv (o' (i + 1))))]
def hL2 (oa : Option Addr) (n c i : Nat) : BK' := AG' [ht' fKp 18 0, (fKp, 19, 1, hv (slV oa n c)), hf' fKp 20 4, (fKp, 23, 0, hv (iv (o' (i + 1))))]
abbrev h63' (q0 : Nat) (q1 : List Value) (q2 : Nat) (z : Cnd) : Cnd := ((f' (Wk (b' false) g')).a ((tt'.a (tt'.a (tt'.a (tt'.a ((p' ((0 + q0 * 1).ble (vmap q1).length = true)).a ((p' (((q0 + 1) * 24).ble 140737488355328 = true)).a ((p' ((q0 + 1).ble 9223372036854775807 = true)).a (f' ((List.take (q0 * 1) (List.drop 0 (vmap q1))).length.beq (q0 * 1) = true))))))))).a ((f' (Wk (z' (IntKind.i64.wrap (o' q2 + o' 1))) (i' (q2 + 1)))).a z)))
abbrev k64' (q0 : Nat) (q1 : AO) (q2 : Nat) (q3 : Int) : Cnd := ((p' True).a ((vw' [pt' q0 0,AV.mt]).a ((p' (OW q1 (AO.ren (nmA (q2,q0,0)) q1))).a (f' (OW (ce' [pt' q2 0,s' nmL,i' 1,z' q3] 154) (ce' [pt' q2 0,s' nmL,i' 1,z' q3] 154))))))
abbrev h65' (q0 q1 : Nat) (q2 : World) (q3 : Addr) (q4 : Option Addr) (q5 q6 : Nat) (z : Cnd) : Cnd := ((wb' (decide (o' q0 < o' q1)) j').a ((f' (q0.blt q1 = true)).a (((p' ((q2.cell? (q3.add (q0 * 1))).isSome = true)).a (f' (Wk (v' ((q2.cell? (q3.add (q0 * 1))).getD (Value.tuple (Array.mk [])))) (v' (sl' q4 q5 q6))))).a (((p' True).a (f' (VW [v' (sl' q4 q5 q6)] [v' (sl' q4 q5 q6)]))).a z))))
theorem WZ' (W : World) (sz sz' tr : Int) (o1 : Addr) (o2 ok oa : Option Addr) (n1 c1 n2 c2 k i nk ck n c : Nat) (V : List Value) (D D' : AO) (F : HP) : B9' [(fCn, cCnM oa n c), (fAp, cApM sz sz' D D')] (hL1 oa n c i) [] W fKp (A8' fKp 10) (tms 0 119 (a1 (some o1) o2 n1 c1 n2 c2 k i)) (oLk D sz tr V ok nk ck) kLk ix1 F = VT.leaf (AX.normal,[v' (sl' (some o1) n1 c1),v' (sl' o2 n2 c2),pt' 1053 0,pt' 1050 0,pt' 1051 0,AV.slice 1101 0 (k + 1) 1 (Cp.lo (k + 1)),v' (sl' (some o1) n1 c1),i' n1,i' (i + 1)],119) [some (AO.ren (sgN (nmA (1050,1051,0)) [] 0) D'),some (ce' [pt' 1050 0,s' nmL,i' 1,z' sz'] 154),none,some (ce' [v' (sl' ok nk ck),z' tr] 94),some (ce' [v' (sl' oa n c)] 98),some (ce' (List.take (k * 1) (List.drop 0 (vmap V)) ++ [v' (sl' oa n c)]) 98),none,none,none,none,none] 1102 (h65' i n1 W o1 oa n c ((k64' 1051 D 1050 sz).a (h63' k V i k1'))) := χ
abbrev k66' (q0 q1 q2 : Nat) (q3 : AO) (q4 : Nat) (q5 : Int) (q6 q7 : Nat) (q8 : Bs) : Cnd := ((p' True).a ((vw' [pt' q0 0,AV.slice q1 0 q2 1 (Cp.lo q2)]).a ((p' (OW q3 (AO.ren (nmA (q4,q0,q1)) q3))).a ((ow' (ce' [pt' q4 0,s' nmL,i' 1,z' q5] 154)).a (f' (OW (ce' (AV.rens (sgN (fun q6 => q6) [q7] q1) (rowV encB q8)) 10) (ce' (AV.rens (nmA (q4,q0,q1)) (rowV encB q8)) 10)))))))
theorem WY' (W : World) (sz sz' tr : Int) (o1 : Addr) (o2 ok oa : Option Addr) (n1 c1 n2 c2 k i nk ck n c : Nat) (r : Bs) (V : List Value) (D D' : AO) (F : HP) : B9' [(fCn, cCnO oa n c r), (fAp, cApO sz sz' n r D D')] (hL1 oa n c i) [] W fKp (A8' fKp 10) (tms 0 119 (a1 (some o1) o2 n1 c1 n2 c2 k i)) (oLk D sz tr V ok nk ck) kLk ix1 F = VT.leaf (AX.normal,[v' (sl' (some o1) n1 c1),v' (sl' o2 n2 c2),pt' 1053 0,pt' 1050 0,pt' 1051 0,AV.slice 1102 0 (k + 1) 1 (Cp.lo (k + 1)),v' (sl' (some o1) n1 c1),i' n1,i' (i + 1)],119) [some (AO.ren (sgN (nmA (1050,1051,1100)) [] 0) D'),some (ce' [pt' 1050 0,s' nmL,i' 1,z' sz'] 154),none,some (ce' [v' (sl' ok nk ck),z' tr] 94),some (ce' (AV.rens (sgN (nmA (1050,1051,1100)) [] 0) (rowV encB r)) 10),some (ce' [v' (sl' oa n c)] 98),some (ce' (List.take (k * 1) (List.drop 0 (vmap V)) ++ [v' (sl' oa n c)]) 98),none,none,none,none] 1103 (h65' i n1 W o1 oa n c ((k66' 1051 1100 n D 1050 sz k 1000 r).a (h63' k V i k1'))) := χ
theorem X0' (W : World) (sz tr : Int) (o1 o2 ok : Option Addr) (n1 c1 n2 c2 k i nk ck : Nat) (V : List Value) (D : AO) (F : HP) : B9' [] (AG' [hf' fKp 10 0]) [] W fKp (A8' fKp 10) (tms 0 119 (a1 o1 o2 n1 c1 n2 c2 k i)) (oLk D sz tr V ok nk ck) kLk ix1 F = VT.leaf (AX.exit 0,[v' (sl' o1 n1 c1),v' (sl' o2 n2 c2),pt' 1053 0,pt' 1050 0,pt' 1051 0,AV.slice 1052 0 k 1 (Cp.lo k),v' (sl' o1 n1 c1),i' n1,i' i],119) [some D,some (ce' [pt' 1050 0,s' nmL,i' 1,z' sz] 154),some (ce' (vmap V) 98),some (ce' [v' (sl' ok nk ck),z' tr] 94),none,none,none,none,none,none,none] 1100 ((k29' i n1).a k1') := χ
theorem WW' (W : World) (sz sz' tr : Int) (o2 : Addr) (o1 ok oa : Option Addr) (n1 c1 n2 c2 k i nk ck n c : Nat) (V : List Value) (D D' : AO) (F : HP) : B9' [(fCn, cCnM oa n c), (fAp, cApM sz sz' D D')] (hL2 oa n c i) [] W fKp (A8' fKp 18) (tms 0 119 (a2 o1 (some o2) n1 c1 n2 c2 k i)) (oLk D sz tr V ok nk ck) kLk ix2 F = VT.leaf (AX.normal,[v' (sl' o1 n1 c1),pt' 1053 0,pt' 1050 0,pt' 1051 0,AV.slice 1101 0 (k + 1) 1 (Cp.lo (k + 1)),v' (sl' (some o2) n2 c2),i' n2,i' (i + 1)],119) [some (AO.ren (sgN (nmA (1050,1051,0)) [] 0) D'),some (ce' [pt' 1050 0,s' nmL,i' 1,z' sz'] 154),none,some (ce' [v' (sl' ok nk ck),z' tr] 94),some (ce' [v' (sl' oa n c)] 98),some (ce' (List.take (k * 1) (List.drop 0 (vmap V)) ++ [v' (sl' oa n c)]) 98),none,none,none,none,none] 1102 (h65' i n2 W o2 oa n c ((k64' 1051 D 1050 sz).a (h63' k V i k1'))) := χ
theorem WV' (W : World) (sz sz' tr : Int) (o2 : Addr) (o1 ok oa : Option Addr) (n1 c1 n2 c2 k i nk ck n c : Nat) (r : Bs) (V : List Value) (D D' : AO) (F : HP) : B9' [(fCn, cCnO oa n c r), (fAp, cApO sz sz' n r D D')] (hL2 oa n c i) [] W fKp (A8' fKp 18) (tms 0 119 (a2 o1 (some o2) n1 c1 n2 c2 k i)) (oLk D sz tr V ok nk ck) kLk ix2 F = VT.leaf (AX.normal,[v' (sl' o1 n1 c1),pt' 1053 0,pt' 1050 0,pt' 1051 0,AV.slice 1102 0 (k + 1) 1 (Cp.lo (k + 1)),v' (sl' (some o2) n2 c2),i' n2,i' (i + 1)],119) [some (AO.ren (sgN (nmA (1050,1051,1100)) [] 0) D'),some (ce' [pt' 1050 0,s' nmL,i' 1,z' sz'] 154),none,some (ce' [v' (sl' ok nk ck),z' tr] 94),some (ce' (AV.rens (sgN (nmA (1050,1051,1100)) [] 0) (rowV encB r)) 10),some (ce' [v' (sl' oa n c)] 98),some (ce' (List.take (k * 1) (List.drop 0 (vmap V)) ++ [v' (sl' oa n c)]) 98),none,none,none,none] 1103 (h65' i n2 W o2 oa n c ((k66' 1051 1100 n D 1050 sz k 1000 r).a (h63' k V i k1'))) := χ
theorem WX' (W : World) (sz tr : Int) (o1 o2 ok : Option Addr) (n1 c1 n2 c2 k i nk ck : Nat) (V : List Value) (D : AO) (F : HP) : B9' [] (AG' [hf' fKp 18 0]) [] W fKp (A8' fKp 18) (tms 0 119 (a2 o1 o2 n1 c1 n2 c2 k i)) (oLk D sz tr V ok nk ck) kLk ix2 F = VT.leaf (AX.exit 2,[v' (sl' o1 n1 c1),pt' 1053 0,pt' 1050 0,pt' 1051 0,AV.slice 1052 0 k 1 (Cp.lo k),v' (sl' o2 n2 c2),i' n2,i' i],119) [some D,some (ce' [pt' 1050 0,s' nmL,i' 1,z' sz] 154),some (ce' (vmap V) 98),some (ce' [v' (sl' ok nk ck),z' tr] 94),none,none,none,none,none,none,none] 1100 ((k29' i n2).a k1') := χ
end
theorem wk_mt {i o s : Nat} : Wk (.slice i o 0 s (.ex 0)) .mt := fun N y h => by
 simp only [VR] at h ⊢; obtain ⟨l, x, c', h1, h2, h3, h4, h5, h6⟩ := h; have h5 : c' = 0 := h5; subst h5; exact ⟨_, h2⟩
theorem RD' : Fits [] [AV.slice 1100 0 0 1 (Cp.ex 0)] [] [AV.mt] [] := (B6' (vs' := [.mt]) (H' := []) [] rfl rfl (VW.cons wk_mt (Yb)) (show I6' [] [] [] [] from trivial)).fits rfl
theorem cn_mt (W : World) (oa : Option Addr) (c : Nat) : Tri Θ W fCn [slV oa 0 c] [] .mt [] := by
 cases oa with
 | none =>
  refine AW' (con := []) (hints := AG' [(fCn, 1, 2, h0)]) (lc := []) [] rfl (fun _ _ => noC) (fun F _ => noL) fun F => ?_
  refine Yj (XE' W c F) ⟨⟨?_, RD'⟩⟩; simp [ch']
 | some a =>
  refine AW' (con := []) (hints := AG' [(fCn, 1, 2, h0)]) (lc := []) [] rfl (fun _ _ => noC) (fun F _ => noL) fun F => ?_
  refine Yj (XG' W a 0 c F) ⟨⟨?_, RD'⟩⟩; simp [ch']
theorem UM' (W : World) (oa : Option Addr) (c : Nat) (l : Bs) (h : BAt W.cell? oa l) (hp : 0 < l.length) : Tri Θ W fCn [slV oa l.length c] [] (sB 1000 l.length) [(1000, rB l)] := by
 obtain ⟨x, hx⟩ := BU' (l := l) hp; obtain ⟨a, rfl, _⟩ := h.2 0 x hx; have hb : l.length <= 140737488351232 := h.1; have b1 : l.length.ble l.length = true := AM' (Yd); obtain ⟨b2, b3⟩ := CV' h
 have b4 : (vmap (AN' W a (l.length * 1))).all AV.one = true := by rw [b3]; exact IV' l
 have b5 : ((0 + l.length) * 1).ble 140737488355328 = true := AM' ω; have b6 : (0 + l.length).ble 9223372036854775807 = true := AM' ω
 have b8 : 0 < 0 + l.length := ω
 refine AW' (con := []) (hints := BB') (lc := []) [1100, 1101, 1102, 1103] rfl (fun _ _ => noC) (fun F _ => noL) fun F => ?_
 refine Yj (XF' W a l.length c F) ⟨⟨?_, (B6' (vs' := [sB 1000 l.length]) (H' := [(1000, rB l)]) [(1000, 1101)] rfl rfl (by rw [Nat.zero_add]; exact Yb) ⟨⟨_, rfl, by rw [List.nil_append]; exact AP' b3 rfl⟩, Ye⟩).fits rfl⟩⟩; simp only [ch', Nat.blt_eq, true_and, and_true]; exact ⟨b1, b2, b4, hp, b5, b6, b8⟩
theorem UH' : ∀ args, RO (gAp args) := fun args => by
 unfold gAp; split
 ·refine RO.read _ _ fun o => ?_
  split <;> first | exact RO.ret _ | exact RO.fail _
 ·refine RO.read _ _ fun o => ?_
  split <;> first | exact RO.ret _ | exact RO.fail _
 ·exact RO.fail _
structure ArgR (W : World) (o : Option Addr) (l : List Rs) : Prop where
 at' : ∀ (i : Nat) (x : Rs), l[i]? = some x -> ∃ a, o = some a /\ W.cell? (a.add (i * 1)) = some x.val
 el : ∀ x ∈ l, At1 W.cell? x /\ x.d.length <= most
theorem J8' (S : List Bs) : ∀ (rs : List Bs) (i : Nat), (cat (S ++ rs.take i)).length <= (cat (S ++ rs)).length := fun rs i => by
 have : rs = rs.take i ++ rs.drop i := (List.take_append_drop i rs).symm
 conv => rhs; rw [this, <- as', GH', la']
 omega
theorem RP' (hN : LN W) (S rs : List Bs) (r : Bs) (hr : r.length <= most) (hp : 0 < r.length) (hS : 0 < (cat S).length) (hz : (cat (S ++ (rs ++ [r]))).length <= 1099511627776) (hk : rs.length < 1099511627776) (F : HP) (hF : AL' W F) : C1OK Θ F fAp (cApO (o' (cat (S ++ rs)).length) (o' (cat (S ++ (rs ++ [r]))).length) r.length r (dO S rs) (dO S (rs ++ [r]))) :=
 BD' hF (fun _ => iv 0) UH' (fun _ => rfl) (fun _ _ => ap_tri W S rs r hr hS hz hk fun F hF => cWo_ok hN r hr hp F hF) fun _ => ⟨rfl, rfl, ⟨rfl, rfl, Ye⟩, A0' Ye (A0' ⟨rfl, Ye, Ye, Ye, Ye⟩ (A0' (AS' _ _) A2')), ⟨Ye, Ye⟩, A0' Ye (A0' ⟨rfl, Ye, Ye, Ye, Ye⟩ (A0' (AS' _ _) A2'))⟩
theorem RQ' (hN : LN W) (S rs : List Bs) (hS : 0 < (cat S).length) (hz : (cat (S ++ (rs ++ [[]]))).length <= 1099511627776) (hk : rs.length < 1099511627776) (F : HP) (hF : AL' W F) : C1OK Θ F fAp (cApM (o' (cat (S ++ rs)).length) (o' (cat (S ++ (rs ++ [[]]))).length) (dO S rs) (dO S (rs ++ [[]]))) :=
 BD' hF (fun _ => iv 0) UH' (fun _ => rfl) (fun _ _ => Y8' W S rs [] (Nat.zero_le _) hS hz hk fun F hF => cWm_ok hN F hF) fun _ => ⟨rfl, rfl, ⟨rfl, Ye, Ye⟩, A0' Ye (A0' ⟨rfl, Ye, Ye, Ye, Ye⟩ A2'), ⟨Ye, Ye⟩, A0' Ye (A0' ⟨rfl, Ye, Ye, Ye, Ye⟩ A2')⟩
structure LkK (W : World) (o : Option Addr) (l : List Rs) (S : List Bs) (V0 : List Value) : Prop where
 hN : LN W
 ar : ArgR W o l
 hS : 0 < (cat S).length
 hz : (cat (S ++ l.map (·.d))).length <= 1099511627776
 hk : V0.length + l.length < 1099511627776
theorem KF' (V : List Value) : List.take (V.length * 1) (List.drop 0 (vmap V)) = vmap V := by rw [List.drop_zero, List.take_of_length_le (by rw [BF', Nat.mul_one]; exact Yd)]
theorem TB' {o1 : Option Addr} {l : List Rs} {S : List Bs} (K : LkK W o1 l S V0) (o2 : Option Addr) (c1 n2 c2 : Nat) (ok : Option Addr) (nk ck : Nat) (tr : Int) :
  LTri Θ W (A8' fKp 10) (tms 0 119 (a1 o1 o2 l.length c1 n2 c2 V0.length 0)) (oLk (dO S []) (o' (cat (S ++ [])).length) tr (V0 ++ []) ok nk ck) (.exit 0) (tms 0 119 [(0, slV o1 l.length c1), (1, slV o2 n2 c2), (5, .ptr 1053 0), (7, .ptr 1050 0), (9, .ptr 1051 0), (10, slA (V0.length + l.length))]) (oLk (dO S (l.map (·.d))) (o' (cat (S ++ (l.map (·.d)))).length) tr (V0 ++ rwV l) ok nk ck) := by
 have hkk := K.hk
 refine BP' (W := W) (g := fKp) (b := A8' fKp 10) (σ := {i : Nat // i <= l.length}) 119 (fun i => a1 o1 o2 l.length c1 n2 c2 (V0.length + i.1) i.1) (fun i => oLk (dO S ((l.map (·.d)).take i.1)) (o' (cat (S ++ ((l.map (·.d)).take i.1))).length) tr (V0 ++ (rwV l).take i.1) ok nk ck) (.exit 0) [(0, slV o1 l.length c1), (1, slV o2 n2 c2), (5, .ptr 1053 0), (7, .ptr 1050 0), (9, .ptr 1051 0), (10, slA (V0.length + l.length))] (oLk (dO S (l.map (·.d))) (o' (cat (S ++ (l.map (·.d)))).length) tr (V0 ++ rwV l) ok nk ck) (fun i => l.length - i.1) kLk ix1 (by intro h; cases h) (fun _ => χ) χ ?_ ⟨0, Nat.zero_le _⟩
 rintro ⟨i, hi⟩; simp only
 by_cases h1 : i < l.length
 ·obtain ⟨x, hx⟩ := BU' h1; have hxm := List.mem_of_getElem? hx; obtain ⟨hA, hmost⟩ := K.ar.el x hxm; obtain ⟨oo, rfl, hcell⟩ := K.ar.at' i x hx; have hsn : (l.map (·.d)).take (i + 1) = (l.map (·.d)).take i ++ [x.d] := C7' (by rw [List.getElem?_map, hx]; rfl)
  have hvn : V0 ++ (rwV l).take (i + 1) = (V0 ++ (rwV l).take i) ++ [x.val] := by
   rw [as', C7' (l := rwV l) (j := i) (x := x.val) (by rw [rwV, List.getElem?_map, hx]; rfl)]
  have hz : (cat (S ++ ((l.map (·.d)).take i ++ [x.d]))).length <= 1099511627776 := by
   rw [<- hsn]; exact Nat.le_trans (J8' S _ _) K.hz
  have hk : ((l.map (·.d)).take i).length < 1099511627776 := by rw [List.length_take, List.length_map]; omega
  have hVl : (V0 ++ (rwV l).take i).length = V0.length + i := by rw [la', List.length_take, rwV, List.length_map]; omega
  have e1 : decide (o' i < o' l.length) = true := ltTN h1; have hw := BQ' i ω
  have hbl : i.blt l.length = true := by rw [Nat.blt_eq]; exact h1
  generalize hVd : V0 ++ (rwV l).take i = V at *
  rw [<- hVl]; have ktk := KF' V; have k1 : (0 + V.length * 1).ble (vmap V).length = true := AM' (by rw [BF']; omega); have k2 : ((V.length + 1) * 24).ble 140737488355328 = true := AM' ω; have k3 : (V.length + 1).ble 9223372036854775807 = true := AM' ω
  have k4 : (List.take (V.length * 1) (List.drop 0 (vmap V))).length.beq (V.length * 1) = true := by rw [ktk, BF', Nat.mul_one]; exact Nat.beq_refl _
  have hnx : V0.length + (i + 1) = V.length + 1 := ω
  obtain ⟨xd, xa, xc⟩ := x; simp only at hA hmost hsn hz hcell ⊢; obtain ⟨hat, hcp⟩ := hA
  cases xd with
  | nil =>
   have q1 := fun F hF => BD' (F := F) (f := fCn) (W := W) hF (π := Unit) (get := fun _ => .ret ()) (pre := fun _ => True) (nm := fun _ k => k) (A := fun _ => [slV xa 0 xc]) (H := fun _ => []) (rt := fun _ => .leaf .ret [.mt] []) (fun _ => .mt) (fun _ => RO.ret _) (fun _ => rfl) (fun _ _ => cn_mt W xa xc) fun _ => ⟨rfl, rfl, ⟨Ye, Ye⟩, A2', ⟨Ye, Ye⟩, A2'⟩
   have q2 := fun F hF => RQ' K.hN S ((l.map (·.d)).take i) K.hS hz hk F hF
   generalize (l.map (·.d)).take i = rs at *
   refine ⟨[(fCn, cCnM xa 0 xc), (fAp, cApM (o' (cat (S ++ rs)).length) (o' (cat (S ++ (rs ++ [[]]))).length) (dO S rs) (dO S (rs ++ [[]])))], hL1 xa 0 xc i, [], fun F hF => AJ' (q1 F hF) (C6' (q2 F hF)), fun _ _ => noL, fun F => ?_⟩
   clear q1 q2
   generalize (cat (S ++ rs)).length = zz at *
   generalize hzy : (cat (S ++ (rs ++ [[]]))).length = zy at *
   refine Yj (WZ' W (o' zz) (o' zy) tr oo o2 ok xa l.length c1 n2 c2 V.length i nk ck 0 xc V (dO S rs) (dO S (rs ++ [[]])) F) ⟨⟨?_, rfl, .inl ⟨rfl, ⟨i + 1, h1⟩, C8' h1, [(1050, 1050), (1051, 1051), (1052, 1101), (1053, 1053)], by simp only [hsn, hvn, hnx, hzy]; exact ⟨χ, by kernel_rfl, ⟨Ya, Ya, Ya, Ya, Ya, Ya, Ya, Ya, Ya, Ye⟩, ⟨_, rfl, Yc⟩, ⟨_, rfl, Yc⟩, ⟨_, rfl, by rw [ktk]; exact OW.of_eq (by rw [DL']; simp only [AO.ren, C9', AK']; rfl)⟩, ⟨_, rfl, Yc⟩, Ye⟩⟩⟩⟩
   exact Cw9'
  | cons b0 bt =>
   have hp : 0 < (b0 :: bt).length := Nat.succ_pos _
   generalize b0 :: bt = xd at *
   have q1 := fun F hF => BD' (F := F) (f := fCn) (W := W) hF (π := Unit) (get := fun _ => .ret ()) (pre := fun _ => True) (nm := fun _ k => k) (A := fun _ => [slV xa xd.length xc]) (H := fun _ => []) (rt := fun _ => .leaf .ret [sB 1000 xd.length] [(1000, rB xd)]) (fun _ => sB 1000 xd.length) (fun _ => RO.ret _) (fun _ => rfl) (fun _ _ => UM' W xa xc xd hat hp) fun _ => ⟨rfl, rfl, ⟨Ye, Ye⟩, A2', ⟨rfl, Ye⟩, A0' (AS' _ _) A2'⟩
   have q2 := fun F hF => RP' K.hN S ((l.map (·.d)).take i) xd hmost hp K.hS hz hk F hF
   generalize (l.map (·.d)).take i = rs at *
   refine ⟨[(fCn, cCnO xa xd.length xc xd), (fAp, cApO (o' (cat (S ++ rs)).length) (o' (cat (S ++ (rs ++ [xd]))).length) xd.length xd (dO S rs) (dO S (rs ++ [xd])))], hL1 xa xd.length xc i, [], fun F hF => AJ' (q1 F hF) (C6' (q2 F hF)), fun _ _ => noL, fun F => ?_⟩
   clear q1 q2
   generalize (cat (S ++ rs)).length = zz at *
   generalize hzy : (cat (S ++ (rs ++ [xd]))).length = zy at *
   refine Yj (WY' W (o' zz) (o' zy) tr oo o2 ok xa l.length c1 n2 c2 V.length i nk ck xd.length xc xd V (dO S rs) (dO S (rs ++ [xd])) F) ⟨⟨?_, rfl, .inl ⟨rfl, ⟨i + 1, h1⟩, C8' h1, [(1050, 1050), (1051, 1051), (1052, 1102), (1053, 1053)], by simp only [hsn, hvn, hnx, hzy]; exact ⟨χ, by kernel_rfl, ⟨Ya, Ya, Ya, Ya, Ya, Ya, Ya, Ya, Ya, Ye⟩, ⟨_, rfl, Yc⟩, ⟨_, rfl, Yc⟩, ⟨_, rfl, by rw [ktk]; exact OW.of_eq (by rw [DL']; simp only [AO.ren, C9', AK']; rfl)⟩, ⟨_, rfl, Yc⟩, Ye⟩⟩⟩⟩
   exact Cw10'
 ·have hie : i = l.length := ω
  subst hie; rw [List.take_of_length_le (by rw [List.length_map]; exact Yd), List.take_of_length_le (by rw [rwV, List.length_map]; exact Yd)]
  generalize (cat (S ++ l.map (·.d))).length = zz at *
  generalize hvv : V0 ++ rwV l = VV at *
  refine ⟨[], AG' [hf' fKp 10 0], [], fun _ _ => noC, fun _ _ => noL, fun F => ?_⟩
  have e := X0' W (o' zz) tr o1 o2 ok l.length c1 n2 c2 (V0.length + l.length) l.length nk ck VV (dO S (l.map (·.d))) F; rw [e]
  refine ⟨⟨?_, rfl, .inr ⟨rfl, [(1050, 1050), (1051, 1051), (1052, 1052), (1053, 1053)], by kernel_rfl, by kernel_rfl, ?_, ?_⟩⟩⟩
  rotate_left
  ·exact ⟨Ya, Ya, Ya, Ya, Ya, Ya, Ye⟩
  ·refine ⟨⟨_, rfl, ?_⟩, ⟨_, rfl, ?_⟩, ⟨_, rfl, ?_⟩, ⟨_, rfl, ?_⟩, Ye⟩
   ·exact Yc
   ·exact Yc
   ·exact OW.of_eq (by simp only [AO.ren, AK'])
   ·exact Yc
  simp only [ch', and_true]; exact A3' (ltFN (Yd))
theorem TA' {o2 : Option Addr} {l : List Rs} {S : List Bs} (K : LkK W o2 l S V0) (o1 : Option Addr) (n1 c1 c2 : Nat) (ok : Option Addr) (nk ck : Nat) (tr : Int) :
  LTri Θ W (A8' fKp 18) (tms 0 119 (a2 o1 o2 n1 c1 l.length c2 V0.length 0)) (oLk (dO S []) (o' (cat (S ++ [])).length) tr (V0 ++ []) ok nk ck) (.exit 2) (tms 0 119 [(0, slV o1 n1 c1), (5, .ptr 1053 0), (7, .ptr 1050 0), (9, .ptr 1051 0), (10, slA (V0.length + l.length))]) (oLk (dO S (l.map (·.d))) (o' (cat (S ++ (l.map (·.d)))).length) tr (V0 ++ rwV l) ok nk ck) := by
 have hkk := K.hk
 refine BP' (W := W) (g := fKp) (b := A8' fKp 18) (σ := {i : Nat // i <= l.length}) 119 (fun i => a2 o1 o2 n1 c1 l.length c2 (V0.length + i.1) i.1) (fun i => oLk (dO S ((l.map (·.d)).take i.1)) (o' (cat (S ++ ((l.map (·.d)).take i.1))).length) tr (V0 ++ (rwV l).take i.1) ok nk ck) (.exit 2) [(0, slV o1 n1 c1), (5, .ptr 1053 0), (7, .ptr 1050 0), (9, .ptr 1051 0), (10, slA (V0.length + l.length))] (oLk (dO S (l.map (·.d))) (o' (cat (S ++ (l.map (·.d)))).length) tr (V0 ++ rwV l) ok nk ck) (fun i => l.length - i.1) kLk ix2 (by intro h; cases h) (fun _ => χ) χ ?_ ⟨0, Nat.zero_le _⟩
 rintro ⟨i, hi⟩; simp only
 by_cases h1 : i < l.length
 ·obtain ⟨x, hx⟩ := BU' h1; have hxm := List.mem_of_getElem? hx; obtain ⟨hA, hmost⟩ := K.ar.el x hxm; obtain ⟨oo, rfl, hcell⟩ := K.ar.at' i x hx; have hsn : (l.map (·.d)).take (i + 1) = (l.map (·.d)).take i ++ [x.d] := C7' (by rw [List.getElem?_map, hx]; rfl)
  have hvn : V0 ++ (rwV l).take (i + 1) = (V0 ++ (rwV l).take i) ++ [x.val] := by
   rw [as', C7' (l := rwV l) (j := i) (x := x.val) (by rw [rwV, List.getElem?_map, hx]; rfl)]
  have hz : (cat (S ++ ((l.map (·.d)).take i ++ [x.d]))).length <= 1099511627776 := by
   rw [<- hsn]; exact Nat.le_trans (J8' S _ _) K.hz
  have hk : ((l.map (·.d)).take i).length < 1099511627776 := by rw [List.length_take, List.length_map]; omega
  have hVl : (V0 ++ (rwV l).take i).length = V0.length + i := by rw [la', List.length_take, rwV, List.length_map]; omega
  have e1 : decide (o' i < o' l.length) = true := ltTN h1; have hw := BQ' i ω
  have hbl : i.blt l.length = true := by rw [Nat.blt_eq]; exact h1
  generalize hVd : V0 ++ (rwV l).take i = V at *
  rw [<- hVl]; have ktk := KF' V; have k1 : (0 + V.length * 1).ble (vmap V).length = true := AM' (by rw [BF']; omega); have k2 : ((V.length + 1) * 24).ble 140737488355328 = true := AM' ω; have k3 : (V.length + 1).ble 9223372036854775807 = true := AM' ω
  have k4 : (List.take (V.length * 1) (List.drop 0 (vmap V))).length.beq (V.length * 1) = true := by rw [ktk, BF', Nat.mul_one]; exact Nat.beq_refl _
  have hnx : V0.length + (i + 1) = V.length + 1 := ω
  obtain ⟨xd, xa, xc⟩ := x; simp only at hA hmost hsn hz hcell ⊢; obtain ⟨hat, hcp⟩ := hA
  cases xd with
  | nil =>
   have q1 := fun F hF => BD' (F := F) (f := fCn) (W := W) hF (π := Unit) (get := fun _ => .ret ()) (pre := fun _ => True) (nm := fun _ k => k) (A := fun _ => [slV xa 0 xc]) (H := fun _ => []) (rt := fun _ => .leaf .ret [.mt] []) (fun _ => .mt) (fun _ => RO.ret _) (fun _ => rfl) (fun _ _ => cn_mt W xa xc) fun _ => ⟨rfl, rfl, ⟨Ye, Ye⟩, A2', ⟨Ye, Ye⟩, A2'⟩
   have q2 := fun F hF => RQ' K.hN S ((l.map (·.d)).take i) K.hS hz hk F hF
   generalize (l.map (·.d)).take i = rs at *
   refine ⟨[(fCn, cCnM xa 0 xc), (fAp, cApM (o' (cat (S ++ rs)).length) (o' (cat (S ++ (rs ++ [[]]))).length) (dO S rs) (dO S (rs ++ [[]])))], hL2 xa 0 xc i, [], fun F hF => AJ' (q1 F hF) (C6' (q2 F hF)), fun _ _ => noL, fun F => ?_⟩
   clear q1 q2
   generalize (cat (S ++ rs)).length = zz at *
   generalize hzy : (cat (S ++ (rs ++ [[]]))).length = zy at *
   refine Yj (WW' W (o' zz) (o' zy) tr oo o1 ok xa n1 c1 l.length c2 V.length i nk ck 0 xc V (dO S rs) (dO S (rs ++ [[]])) F) ⟨⟨?_, rfl, .inl ⟨rfl, ⟨i + 1, h1⟩, C8' h1, [(1050, 1050), (1051, 1051), (1052, 1101), (1053, 1053)], by simp only [hsn, hvn, hnx, hzy]; exact ⟨χ, by kernel_rfl, ⟨Ya, Ya, Ya, Ya, Ya, Ya, Ya, Ya, Ye⟩, ⟨_, rfl, Yc⟩, ⟨_, rfl, Yc⟩, ⟨_, rfl, by rw [ktk]; exact OW.of_eq (by rw [DL']; simp only [AO.ren, C9', AK']; rfl)⟩, ⟨_, rfl, Yc⟩, Ye⟩⟩⟩⟩
   exact Cw9'
  | cons b0 bt =>
   have hp : 0 < (b0 :: bt).length := Nat.succ_pos _
   generalize b0 :: bt = xd at *
   have q1 := fun F hF => BD' (F := F) (f := fCn) (W := W) hF (π := Unit) (get := fun _ => .ret ()) (pre := fun _ => True) (nm := fun _ k => k) (A := fun _ => [slV xa xd.length xc]) (H := fun _ => []) (rt := fun _ => .leaf .ret [sB 1000 xd.length] [(1000, rB xd)]) (fun _ => sB 1000 xd.length) (fun _ => RO.ret _) (fun _ => rfl) (fun _ _ => UM' W xa xc xd hat hp) fun _ => ⟨rfl, rfl, ⟨Ye, Ye⟩, A2', ⟨rfl, Ye⟩, A0' (AS' _ _) A2'⟩
   have q2 := fun F hF => RP' K.hN S ((l.map (·.d)).take i) xd hmost hp K.hS hz hk F hF
   generalize (l.map (·.d)).take i = rs at *
   refine ⟨[(fCn, cCnO xa xd.length xc xd), (fAp, cApO (o' (cat (S ++ rs)).length) (o' (cat (S ++ (rs ++ [xd]))).length) xd.length xd (dO S rs) (dO S (rs ++ [xd])))], hL2 xa xd.length xc i, [], fun F hF => AJ' (q1 F hF) (C6' (q2 F hF)), fun _ _ => noL, fun F => ?_⟩
   clear q1 q2
   generalize (cat (S ++ rs)).length = zz at *
   generalize hzy : (cat (S ++ (rs ++ [xd]))).length = zy at *
   refine Yj (WV' W (o' zz) (o' zy) tr oo o1 ok xa n1 c1 l.length c2 V.length i nk ck xd.length xc xd V (dO S rs) (dO S (rs ++ [xd])) F) ⟨⟨?_, rfl, .inl ⟨rfl, ⟨i + 1, h1⟩, C8' h1, [(1050, 1050), (1051, 1051), (1052, 1102), (1053, 1053)], by simp only [hsn, hvn, hnx, hzy]; exact ⟨χ, by kernel_rfl, ⟨Ya, Ya, Ya, Ya, Ya, Ya, Ya, Ya, Ye⟩, ⟨_, rfl, Yc⟩, ⟨_, rfl, Yc⟩, ⟨_, rfl, by rw [ktk]; exact OW.of_eq (by rw [DL']; simp only [AO.ren, C9', AK']; rfl)⟩, ⟨_, rfl, Yc⟩, Ye⟩⟩⟩⟩
   exact Cw10'
 ·have hie : i = l.length := ω
  subst hie; rw [List.take_of_length_le (by rw [List.length_map]; exact Yd), List.take_of_length_le (by rw [rwV, List.length_map]; exact Yd)]
  generalize (cat (S ++ l.map (·.d))).length = zz at *
  generalize hvv : V0 ++ rwV l = VV at *
  refine ⟨[], AG' [hf' fKp 18 0], [], fun _ _ => noC, fun _ _ => noL, fun F => ?_⟩
  have e := WX' W (o' zz) tr o1 o2 ok n1 c1 l.length c2 (V0.length + l.length) l.length nk ck VV (dO S (l.map (·.d))) F; rw [e]
  refine ⟨⟨?_, rfl, .inr ⟨rfl, [(1050, 1050), (1051, 1051), (1052, 1052), (1053, 1053)], by kernel_rfl, by kernel_rfl, ?_, ?_⟩⟩⟩
  rotate_left
  ·exact ⟨Ya, Ya, Ya, Ya, Ya, Ye⟩
  ·refine ⟨⟨_, rfl, ?_⟩, ⟨_, rfl, ?_⟩, ⟨_, rfl, ?_⟩, ⟨_, rfl, ?_⟩, Ye⟩
   ·exact Yc
   ·exact Yc
   ·exact OW.of_eq (by simp only [AO.ren, AK'])
   ·exact Yc
  simp only [ch', and_true]; exact A3' (ltFN (Yd))
noncomputable section
def gDo : List AV -> AP (Bool × List (Nat × Nat)) := fun args => match args with
 | [.slice i _ _ _ _, _] => .read i fun o => match o with
  | .cells [_, .slice j _ _ _ _] _ => .ret (true, [(1030, i), (1031, j)])
  | _ => .fail "files"
 | _ => .ret (false, [])
def cDo (n : Nat) (R : Bs) (hZ hF : Nat -> Nat -> HP) : List AV -> Option (AP AV) := mkC gDo (fun _ => True) (fun p => nmF p.2) (fun p => match p.1 with | false => [nilS, iv 1099511627776] | true => [.slice 1030 0 1 2 (.lo 1), iv 1099511627776]) (fun p => match p.1 with | false => [] | true => outH n R) (fun p => match p.1 with | false => .leaf .ret [.tuple [.ptr 1000 0, iv 0]] [(1000, .own .nothing hZ)] | true => .leaf .ret [.tuple [.ptr 1000 0, iv 0]] [(1000, .own (.turns [1]) hF)])
def gWo : List AV -> AP (Bool × Nat) := fun args => match args with
 | [.ptr i 0, _] => .read i fun o => match o with
  | .own (.turns _) _ => .ret (true, i)
  | .own _ _ => .ret (false, i)
  | _ => .fail "disk"
 | _ => .fail "disk"
def cWo2 (m : Nat) (s0 : Int) (hZ hF : Nat -> Nat -> HP) (D0 O : AO) : List AV -> Option (AP AV) := mkC gWo (fun _ => True) (fun p => nmW p.2) (fun p => [.ptr 0 0, sv nmL]) (fun p => match p.1 with | false => [(0, .own .nothing hZ)] | true => [(0, .own (.turns [1]) hF)]) (fun p => match p.1 with | false => .leaf .ret [.tuple [.ptr 1020 0, .slice 1021 0 1 1 (.lo 1), iv 0]] [(0, D0), (1020, lgC s0), (1021, .cells [nilS] tRb)] | true => .leaf .ret [.tuple [.any, slR m, iv 0]] [(1016, O)])
def gLs : List AV -> AP (Nat × Nat × Nat) := fun args => match args with
 | [.ptr l 0] => .read l fun o => match o with
  | .cells (.ptr d 0 :: _) _ => .ret (d, l, 0)
  | _ => .fail "log"
 | _ => .fail "log"
def cLs (sz : Int) (D D' : AO) : List AV -> Option (AP AV) := mkC gLs (fun _ => True) nmA (fun _ => [.ptr 2 0]) (fun _ => [(0, D), (2, lgC sz)]) (fun _ => .leaf .ret [.tuple []] [(0, D'), (2, lgC sz)])
def cCr (ok : Option Addr) (nk ck n : Nat) (tr : Int) (D : AO) (R : Bs) : List AV -> Option (AP AV) := mkC (fun args => match args with | .ptr i 0 :: _ => .ret i | _ => .fail "crash") (fun _ => True) nmW (fun _ => [.ptr 0 0, JI' ok nk ck tr]) (fun _ => [(0, D)]) (fun _ => .leaf .ret [.slice 1030 0 1 2 (.lo 1)] (outH n R))
def nmS (p : Nat × Nat) (k : Nat) : Nat := match k with
 | 0 => p.1
 | 1 => p.2
 | k => k
def cSm (m : Nat) (O : AO) (V : List Value) : List AV -> Option (AP AV) := mkC (fun args => match args with | [.slice i _ _ _ _, .slice j _ _ _ _] => .ret (i, j) | _ => .fail "rows") (fun _ => True) nmS (fun _ => [slQ 0 m, slQ 1 m]) (fun _ => [(0, O), (1, .cells (vmap V) tRb)]) (fun _ => .leaf .ret [bv true] [])
def gLk (tmps : List AV) : AP (List (Nat × Nat)) := match tmps.getD 5 .any, tmps.getD 7 .any, tmps.getD 9 .any, tmps.getD 10 .any with
 | .ptr f 0, .ptr d 0, .ptr l 0, .slice a _ _ _ _ => .ret [(1050, d), (1051, l), (1052, a), (1053, f)]
 | _, _, _, _ => .fail "loop"
def lL1 (o1 o2 ok : Option Addr) (n1 c1 n2 c2 nk ck k0 k1 : Nat) (tr s0 s1 : Int) (D0 D1 : AO) (V0 V1 : List Value) : List AV -> AP (AX × List AV) := mkL gLk (fun _ => True) nmF (fun _ => tms 0 119 (a1 o1 o2 n1 c1 n2 c2 k0 0)) (fun _ => oLk D0 s0 tr V0 ok nk ck) (fun _ => .leaf (.exit 0) (tms 0 119 [(0, slV o1 n1 c1), (1, slV o2 n2 c2), (5, .ptr 1053 0), (7, .ptr 1050 0), (9, .ptr 1051 0), (10, slA k1)]) (oLk D1 s1 tr V1 ok nk ck))
def lL2 (o1 o2 ok : Option Addr) (n1 c1 n2 c2 nk ck k0 k1 : Nat) (tr s0 s1 : Int) (D0 D1 : AO) (V0 V1 : List Value) : List AV -> AP (AX × List AV) := mkL gLk (fun _ => True) nmF (fun _ => tms 0 119 (a2 o1 o2 n1 c1 n2 c2 k0 0)) (fun _ => oLk D0 s0 tr V0 ok nk ck) (fun _ => .leaf (.exit 2) (tms 0 119 [(0, slV o1 n1 c1), (5, .ptr 1053 0), (7, .ptr 1050 0), (9, .ptr 1051 0), (10, slA k1)]) (oLk D1 s1 tr V1 ok nk ck))
def hKp : BK' := AG' [hf' fKp 1 1, hf' fKp 4 1, hf' fKp 7 1, hf' fKp 7 4, hf' fKp 7 5, hf' fKp 25 1, ht' fKp 28 1, ht' fKp 28 7, ht' fKp 28 8, ht' fKp 28 14, ht' fKp 28 15]
def TL' (m nR nk ck : Nat) (ok : Option Addr) (tr s0 s1 : Int) (R : Bs) (hZ hF : Nat -> Nat -> HP) (D0 D1 D1' D2 O : AO) (V2 : List Value) : G0' := [(KN', RN'), (fDo, cDo nR R hZ hF), (fWo, cWo2 m s0 hZ hF D0 O), (fLs, cLs s1 D1 D1'), (fCr, cCr ok nk ck nR tr D2 R), (fSm, cSm m O V2)]
def lcKp (o1 o2 ok : Option Addr) (n1 c1 n2 c2 nk ck k1 k2 : Nat) (tr s0 s1 s2 : Int) (D0 D1 D1' D2 : AO) (V1 V2 : List Value) : LcL := [(fKp, 10, A8' fKp 10, lL1 o1 o2 ok n1 c1 n2 c2 nk ck 1 k1 tr s0 s1 D0 D1 [.slice none 0 0] V1), (fKp, 18, A8' fKp 18, lL2 o1 o2 ok n1 c1 n2 c2 nk ck k1 k2 tr s1 s2 D1' D2 V1 V2)]
abbrev k67' (q0 : Nat) (q1 : Int) : Cnd := (ow' (ce' [pt' q0 0,s' nmL,i' 1,z' q1] 154))
theorem oKp_eq (W : World) (o1 o2 ok : Option Addr) (n1 c1 n2 c2 nk ck k1 k2 m nR : Nat) (tr s0 s1 s2 : Int) (R : Bs) (hZ hF : Nat -> Nat -> HP) (D0 D1 D1' D2 O : AO) (V1 V2 : List Value) (F : HP) : wRun (TL' m nR nk ck ok tr s0 s1 R hZ hF D0 D1 D1' D2 O V2) hKp (lcKp o1 o2 ok n1 c1 n2 c2 nk ck k1 k2 tr s0 s1 s2 D0 D1 D1' D2 V1 V2) W fKp [slV o1 n1 c1, slV o2 n2 c2, JI' ok nk ck tr] [] [] F = VT.leaf (b' true) [] 1116 (((Cnd.p True).a (f' (VW [] []))).a (k6'.a (((Cnd.p True).a (f' (VW [e',i' 1099511627776] [e',i' 1099511627776]))).a (k6'.a (((Cnd.p True).a ((p' (VW [pt' 1101 0,s' (ByteArray.mk (Array.mk [108,111,103]))] [pt' 1101 0,s' nmL])).a (f' (OW (AO.own Md.nothing hZ) (AO.own Md.nothing hZ))))).a (k6'.a (k6'.a (k41'.a ((p' ((fKp,10,A8' fKp 10,lL1 o1 o2 ok n1 c1 n2 c2 nk ck 1 k1 tr s0 s1 D0 D1 [sl' none 0 0] V1).snd.snd.fst = (fKp,10,A8' fKp 10,lL1 o1 o2 ok n1 c1 n2 c2 nk ck 1 k1 tr s0 s1 D0 D1 [sl' none 0 0] V1).snd.snd.fst)).a (k4'.a ((p' (VW (v' (sl' o1 n1 c1)::v' (sl' o2 n2 c2)::AV.agg [v' (sl' ok nk ck),z' tr]::u'::u'::pt' 1100 0::b' false::pt' 1101 0::i' 0::pt' 1102 0::AV.slice 1103 0 1 1 (Cp.lo 1)::i' 0::ru8 (b' true::g'::AV.tuple [pt' 1101 0,i' 0]::AV.tuple [pt' 1101 0,i' 0]::pt' 1101 0::i' 0::pt' 1101 0::g'::AV.tuple [pt' 1102 0,AV.slice 1103 0 1 1 (Cp.lo 1),i' 0]::pt' 1101 0::AV.tuple [pt' 1102 0,AV.slice 1103 0 1 1 (Cp.lo 1),i' 0]::pt' 1102 0::AV.slice 1103 0 1 1 (Cp.lo 1)::i' 0::pt' 1102 0::g'::g'::i' 0::g'::g'::v' (sl' o1 n1 c1)::z' ↑n1::i' 0::ru16 (ru16 (ru16 (ru16 (ru8 (ru4 ([])))))))) (v' (sl' o1 n1 c1)::v' (sl' o2 n2 c2)::a'::a'::a'::pt' 1100 0::a'::pt' 1101 0::a'::pt' 1102 0::AV.slice 1103 0 1 1 (Cp.lo 1)::ra16 (ra8 (ra4 (a'::v' (sl' o1 n1 c1)::i' n1::i' 0::ra16 (ra16 (ra16 (ra16 (ra8 (ra4 ([])))))))))))).a ((p' (OW (AO.ren (sgN (nmW 1101) [1020,1021] 1102) D0) (AO.ren (nmF [(1050,1101),(1051,1102),(1052,1103),(1053,1100)]) D0))).a ((k67' 1101 s0).a ((ow' (ce' [e'] 98)).a ((k49' ok nk ck tr).a (((Cnd.p True).a ((vw' [pt' 1105 0]).a ((p' (OW (AO.ren (sgN (nmF [(1050,1101),(1051,1102),(1052,1103),(1053,1100)]) [1050,1051,1052,1053] 1104) D1) (AO.ren (nmA (1104,1105,0)) D1))).a (f' (OW (ce' [pt' 1104 0,s' nmL,i' 1,z' s1] 154) (ce' [pt' 1104 0,s' nmL,i' 1,z' s1] 154)))))).a ((p' ((fKp,18,A8' fKp 18,lL2 o1 o2 ok n1 c1 n2 c2 nk ck k1 k2 tr s1 s2 D1' D2 V1 V2).snd.snd.fst = (fKp,18,A8' fKp 18,lL2 o1 o2 ok n1 c1 n2 c2 nk ck k1 k2 tr s1 s2 D1' D2 V1 V2).snd.snd.fst)).a (k4'.a ((p' (VW (v' (sl' o1 n1 c1)::v' (sl' o2 n2 c2)::a'::a'::a'::pt' 1107 0::a'::pt' 1104 0::a'::pt' 1105 0::AV.slice 1106 0 k1 1 (Cp.lo k1)::ra16 (ra16 (ra16 (pt' 1105 0::AV.tuple []::v' (sl' o2 n2 c2)::z' ↑n2::i' 0::ra16 (ra16 (ra16 (ra4 (a'::a'::a'::[])))))))) (v' (sl' o1 n1 c1)::ra4 (pt' 1107 0::a'::pt' 1104 0::a'::pt' 1105 0::AV.slice 1106 0 k1 1 (Cp.lo k1)::ra16 (ra16 (ra16 (a'::a'::v' (sl' o2 n2 c2)::i' n2::i' 0::ra16 (ra16 (ra16 (ra4 (a'::a'::a'::[]))))))))))).a ((p' (OW (AO.ren (sgN (nmA (1104,1105,0)) [] 0) D1') (AO.ren (nmF [(1050,1104),(1051,1105),(1052,1106),(1053,1107)]) D1'))).a ((k67' 1104 s1).a ((p' (OW (ce' (AV.rens (sgN (nmF [(1050,1101),(1051,1102),(1052,1103),(1053,1100)]) [1050,1051,1052,1053] 1104) (vmap V1)) 98) (ce' (AV.rens (nmF [(1050,1104),(1051,1105),(1052,1106),(1053,1107)]) (vmap V1)) 98))).a ((k49' ok nk ck tr).a ((ee' [v' (sl' ok nk ck),z' tr]).a (((Cnd.p True).a ((vw' [pt' 1108 0,AV.agg [v' (sl' ok nk ck),z' tr]]).a (f' (OW (AO.ren (sgN (nmF [(1050,1104),(1051,1105),(1052,1106),(1053,1107)]) [1050,1051,1052,1053] 1108) D2) (AO.ren (nmW 1108) D2))))).a (((Cnd.p True).a ((vw' [AV.slice 1112 0 1 2 (Cp.lo 1),i' 1099511627776]).a ((ow' (ce' [s' nm1,AV.slice 1113 0 nR 1 (Cp.lo nR)] 108)).a (f' (OW (ce' (AV.rens (sgN (nmW 1108) [1030,1031] 1112) (rowV encB R)) 10) (ce' (AV.rens (nmF [(1030,1112),(1031,1113)]) (rowV encB R)) 10)))))).a (k6'.a (((Cnd.p True).a ((p' (VW [pt' 1114 0,s' (ByteArray.mk (Array.mk [108,111,103]))] [pt' 1114 0,s' nmL])).a (f' (OW (AO.own (Md.turns [o' 1]) hF) (AO.own (Md.turns [o' 1]) hF))))).a (k22'.a ((wb' (decide ((↑m : Int) > ↑n1)) j').a (k37'.a ((wb' (decide ((↑m : Int) <= ↑k2)) j').a (k37'.a ((tt'.a ((p' (m.ble k2 = true)).a (f' (k2.ble k2 = true)))).a (((Cnd.p True).a ((p' (VW [AV.slice 1115 0 m 1 (Cp.lo m),AV.slice 1110 0 m 1 (Cp.lo k2)] [AV.slice 1115 0 m 1 (Cp.lo m),AV.slice 1110 0 m 1 (Cp.lo m)])).a ((p' (OW (AO.ren (sgN (nmW 1114) [1016] 1115) O) (AO.ren (nmS (1115,1110)) O))).a (f' (OW (ce' (AV.rens (sgN (nmF [(1050,1104),(1051,1105),(1052,1106),(1053,1107)]) [1050,1051,1052,1053] 1108) (vmap V2)) 98) (ce' (AV.rens (nmS (1115,1110)) (vmap V2)) 98)))))).a k1'))))))))))))))))))))))))))))))))))) := χ
end
abbrev zHP : Nat -> Nat -> HP := exHP (fun _ : Unit => True) (fun _ => dZL)
abbrev fHP (R : Bs) : Nat -> Nat -> HP := exHP (fun _ : Unit => True) (fun _ => dFL R)
theorem gDo_ro : ∀ args, RO (gDo args) := fun args => by
 unfold gDo; split
 ·refine RO.read _ _ fun o => ?_
  split <;> first | exact RO.ret _ | exact RO.fail _
 ·exact RO.ret _
theorem gWo_ro : ∀ args, RO (gWo args) := fun args => by
 unfold gWo; split
 ·refine RO.read _ _ fun o => ?_
  split <;> first | exact RO.ret _ | exact RO.fail _
 ·exact RO.fail _
theorem gLs_ro : ∀ args, RO (gLs args) := fun args => by
 unfold gLs; split
 ·refine RO.read _ _ fun o => ?_
  split <;> first | exact RO.ret _ | exact RO.fail _
 ·exact RO.fail _
theorem UG' : ∀ args, RO (gLk args) := fun args => by
 unfold gLk
 split <;> first | exact RO.ret _ | exact RO.fail _
theorem cDo_ok (R : Bs) (hb : R.length <= 2199023255552) (hp : 0 < R.length) (F : HP) : C1OK Θ F fDo (cDo R.length R zHP (fHP R)) :=
 BD' (W := default) CL' (fun _ => .tuple [.ptr 1000 0, iv 0]) gDo_ro (fun p => by obtain ⟨b, l⟩ := p; cases b <;> rfl) (fun p _ => by
  obtain ⟨b, l⟩ := p
  cases b with
  | false => exact do_z
  | true => exact do_f R hb hp) fun p => by
  obtain ⟨b, l⟩ := p
  cases b with
  | false => exact ⟨rfl, rfl, ⟨Ye, Ye, Ye⟩, A2', ⟨⟨rfl, Ye, Ye⟩, Ye⟩, A0' Ye A2'⟩
  | true => exact ⟨rfl, rfl, ⟨rfl, Ye, Ye⟩, A0' ⟨Ye, rfl, Ye⟩ (A0' (AS' _ _) A2'), ⟨⟨rfl, Ye, Ye⟩, Ye⟩, A0' Ye A2'⟩
theorem Y1' (hN : LN W) (R : Bs) (hz : R.length <= 1099511627776) (hw : AH' R ≠ []) (F : HP) (hF : AL' W F) : C1OK Θ F fWo (cWo2 (AH' R).length (o' (cat [[]]).length) zHP (fHP R) (dO [[]] []) (rbO (AH' R))) :=
 BD' hF (fun p => match p.1 with | false => .tuple [.ptr 1020 0, .slice 1021 0 1 1 (.lo 1), iv 0] | true => .tuple [.any, slR (AH' R).length, iv 0]) gWo_ro (fun p => by obtain ⟨b, l⟩ := p; cases b <;> rfl) (fun p _ => by
  obtain ⟨b, l⟩ := p
  cases b with
  | false => exact wo_z W hN
  | true => exact wo_f W hN R hz hw) fun p => by
  obtain ⟨b, l⟩ := p
  cases b with
  | false => exact ⟨rfl, rfl, ⟨rfl, Ye, Ye⟩, A0' Ye A2', ⟨⟨rfl, rfl, Ye, Ye⟩, Ye⟩, A0' Ye (A0' ⟨rfl, Ye, Ye, Ye, Ye⟩ (A0' ⟨Ye, Ye⟩ A2'))⟩
  | true => exact ⟨rfl, rfl, ⟨rfl, Ye, Ye⟩, A0' Ye A2', ⟨⟨Ye, rfl, Ye, Ye⟩, Ye⟩, A0' Ye A2'⟩
theorem cLs_ok (S rs : List Bs) (sz : Int) (h0 : 0 < (cat S).length) (hz : (cat (S ++ rs)).length <= 1099511627776) (hk : rs.length < 1099511627776) (F : HP) : C1OK Θ F fLs (cLs sz (dO S rs) (dO (S ++ rs) [])) :=
 BD' (W := default) CL' (fun _ => .tuple []) gLs_ro (fun _ => rfl) (fun _ _ => sy_tri S rs sz h0 hz hk) fun _ => ⟨rfl, rfl, ⟨rfl, Ye⟩, A0' Ye (A0' ⟨rfl, Ye, Ye, Ye, Ye⟩ A2'), ⟨Ye, Ye⟩, A0' Ye (A0' ⟨rfl, Ye, Ye, Ye, Ye⟩ A2')⟩
theorem cCr_ok (S rs : List Bs) (ok : Option Addr) (kp : List Bool) (ck : Nat) (tr : Int) (hK : KAt W ok kp) (h0 : 0 < (cat S).length) (hz : (cat (S ++ rs)).length <= 1099511627776) (hk : rs.length < 1099511627776) (F : HP) (hF : AL' W F) : C1OK Θ F fCr (cCr ok kp.length ck (DT' kp tr S rs).length tr (dO S rs) (DT' kp tr S rs)) :=
 BD' hF (fun _ => .slice 1030 0 1 2 (.lo 1)) (fun args => by split <;> first | exact RO.ret _ | exact RO.fail _) (fun _ => rfl) (fun _ _ => cr_tri W S rs ok kp ck tr hK h0 hz hk) fun _ => ⟨rfl, rfl, ⟨rfl, ⟨Ye, Ye, Ye⟩, Ye⟩, A0' Ye A2', ⟨rfl, Ye⟩, A0' ⟨Ye, rfl, Ye⟩ (A0' (AS' _ _) A2')⟩
theorem cSm_ok (V : List Value) (ls : List Bs) (hmb : ls.length < 9223372036854775807) (hV : RowT W.cell? V ls) (F : HP) (hF : AL' W F) : C1OK Θ F fSm (cSm ls.length (rbO ls) V) :=
 BD' hF (fun _ => bv true) (fun args => by split <;> first | exact RO.ret _ | exact RO.fail _) (fun _ => rfl) (fun _ _ => sm_tri W V ls hmb hV) fun _ => ⟨rfl, rfl, ⟨rfl, rfl, Ye⟩, A0' Ye (A0' (B1' _ _) A2'), ⟨Ye, Ye⟩, A2'⟩
theorem OS' (S rs : List Bs) (sz tr : Int) (V : List Value) (ok : Option Addr) (nk ck : Nat) (K : Nat -> Bool) (h0 : K 1050 = true) : ∀ x ∈ oLk (dO S rs) sz tr V ok nk ck, x.2.cl K :=
 A0' Ye (A0' ⟨h0, Ye, Ye, Ye, Ye⟩ (A0' (B1' _ _) (A0' ⟨Ye, Ye, Ye⟩ A2')))
theorem lL1_ok {o1 : Option Addr} {l : List Rs} (K : LkK W o1 l [[]] [.slice none 0 0]) (o2 : Option Addr) (c1 n2 c2 : Nat) (ok : Option Addr) (nk ck k1 : Nat) (tr : Int) (hk : k1 = 1 + l.length) (F : HP) (hF : AL' W F) : L1OK Θ F (A8' fKp 10) (lL1 o1 o2 ok l.length c1 n2 c2 nk ck 1 k1 tr (o' (cat [[]]).length) (o' (cat ([[]] ++ l.map (·.d))).length) (dO [[]] []) (dO [[]] (l.map (·.d))) [.slice none 0 0] ([.slice none 0 0] ++ rwV l)) := by
 subst hk
 exact CX' hF UG' (fun _ _ => TB' K o2 c1 n2 c2 ok nk ck tr) fun _ => by
  simp only [RT.pick]; exact BX' rfl rfl (A0' Ye (A0' Ye (A0' rfl (A0' rfl (A0' rfl (A0' rfl (A0' Ye (A0' Ye (A0' Ye A2'))))))))) (OS' _ _ _ _ _ _ _ _ _ rfl) (A0' Ye (A0' Ye (A0' rfl (A0' rfl (A0' rfl (A0' rfl A2')))))) (OS' _ _ _ _ _ _ _ _ _ rfl)
theorem lL2_ok {o2 : Option Addr} {l : List Rs} {S : List Bs} (K : LkK W o2 l S V0) (o1 : Option Addr) (n1 c1 c2 : Nat) (ok : Option Addr) (nk ck k1 k2 : Nat) (tr : Int) (hk1 : k1 = V0.length) (hk : k2 = V0.length + l.length) (F : HP) (hF : AL' W F) : L1OK Θ F (A8' fKp 18) (lL2 o1 o2 ok n1 c1 l.length c2 nk ck k1 k2 tr (o' (cat S).length) (o' (cat (S ++ l.map (·.d))).length) (dO S []) (dO S (l.map (·.d))) V0 (V0 ++ rwV l)) := by
 subst hk1 hk; have h := TA' K o1 n1 c1 c2 ok nk ck tr; rw [List.append_nil, List.append_nil] at h
 exact CX' hF UG' (fun _ _ => h) fun _ => by
  simp only [RT.pick]; exact BX' rfl rfl (A0' Ye (A0' rfl (A0' rfl (A0' rfl (A0' rfl (A0' Ye (A0' Ye (A0' Ye A2')))))))) (OS' _ _ _ _ _ _ _ _ _ rfl) (A0' Ye (A0' rfl (A0' rfl (A0' rfl (A0' rfl A2'))))) (OS' _ _ _ _ _ _ _ _ _ rfl)
theorem kp_run (W : World) (o1 o2 ok : Option Addr) (n1 c1 n2 c2 nk ck k1 k2 m nR : Nat) (tr s0 s1 s2 : Int) (R : Bs) (hZ hF : Nat -> Nat -> HP) (D0 D1 D1' D2 O : AO) (V1 V2 : List Value)
  (q : ∀ F, AL' W F -> ∀ x ∈ TL' m nR nk ck ok tr s0 s1 R hZ hF D0 D1 D1' D2 O V2, C1OK Θ F x.1 x.2) (ql : ∀ F, AL' W F -> ∀ x ∈ lcKp o1 o2 ok n1 c1 n2 c2 nk ck k1 k2 tr s0 s1 s2 D0 D1 D1' D2 V1 V2, L1OK Θ F x.2.2.1 x.2.2.2)
  (h0 : ∀ σ, D0.ren σ = D0) (h1 : ∀ σ, D1.ren σ = D1) (h2 : ∀ σ, D1'.ren σ = D1') (h3 : ∀ σ, D2.ren σ = D2) (h4 : ∀ σ, O.ren σ = O) (hm : n1 < m) (hk : m <= k2) :
  Tri Θ W fKp [slV o1 n1 c1, slV o2 n2 c2, JI' ok nk ck tr] [] (bv true) [] := by
 refine AW' (con := TL' m nR nk ck ok tr s0 s1 R hZ hF D0 D1 D1' D2 O V2) (hints := hKp) (lc := lcKp o1 o2 ok n1 c1 n2 c2 nk ck k1 k2 tr s0 s1 s2 D0 D1 D1' D2 V1 V2) [] rfl q ql fun F => ?_
 refine Yj (oKp_eq W o1 o2 ok n1 c1 n2 c2 nk ck k1 k2 m nR tr s0 s1 s2 R hZ hF D0 D1 D1' D2 O V1 V2 F) ⟨⟨?_, (B6' (vs' := [bv true]) (H' := []) [] rfl rfl (Yb) (show I6' [] [] [] [] from trivial)).fits rfl⟩⟩; clear q ql; have f1 : decide ((m : Int) > (n1 : Int)) = true := decide_eq_true ω; have f2 : decide ((m : Int) <= (k2 : Int)) = true := decide_eq_true ω; have f3 : m.ble k2 = true := AM' hk; have f4 : k2.ble k2 = true := AM' (Yd)
 simp only [ch', true_and, and_true, h0, h1, h2, h3, h4, f3, f4]; and_intros; all_goals first | (with_reducible exact Ye) | (with_reducible exact rfl) | (with_reducible exact A3' f1) | (with_reducible exact A3' f2) | (with_reducible exact Ya) | (with_reducible exact Yb) | (with_reducible exact Yc) | exact A3' rfl | exact Ya | exact Yc | exact rfl | (refine VW.cons Ya (VW.cons (Q9' hk) VW.nil); done) | (refine OW.of_eq ?_; simp only [AO.ren, A4', AK']; done) | ((repeat (first | exact VW.nil | refine VW.cons (Wk.any _) ?_ | refine VW.cons Ya ?_)); done)
def wRs (l : List Rs) : Nat := (l.map fun x => x.d.length + 1).sum
theorem OE' (x : Rs) (l : List Rs) : wRs (x :: l) = x.d.length + 1 + wRs l := by simp [wRs]
theorem NJ' : ∀ l : List Rs, l.length <= wRs l
 | [] => Yd
 | x :: l => by have := NJ' l; rw [OE', List.length_cons]; omega
theorem NV' : ∀ l : List Rs, (cat (l.map (·.d))).length <= 8 * wRs l
 | [] => Yd
 | x :: l => by
  have := NV' l; rw [List.map_cons, DX', OE', la', B3']; omega
theorem cat_e : (cat [[]]).length = 8 := rfl
theorem XZ' (rs : List Bs) : ((rs.map AR').map List.length).sum = (cat rs).length := by
 rw [cat, List.length_flatMap, List.map_map]; rfl
theorem R6' (W : World) (hN : LN W) {o1 o2 ok : Option Addr} {l1 l2 : List Rs} {kp : List Bool} (c1 c2 ck : Nat) (tr : Int) (h1 : ArgR W o1 l1) (h2 : ArgR W o2 l2) (hK : KAt W ok kp) (hb : wRs l1 + wRs l2 <= 1048576) :
  Tri Θ W fKp [slV o1 l1.length c1, slV o2 l2.length c2, JI' ok kp.length ck tr] [] (bv true) [] := by
 have e1 := NJ' l1; have e2 := NJ' l2; have g1 := NV' l1; have g2 := NV' l2
 have hS1 : EZ' ([[]] ++ l1.map (·.d)) := fun r hr => by
  rcases List.mem_append.1 hr with hr | hr
  ·rw [List.mem_singleton.1 hr]; exact Nat.zero_le _
  ·obtain ⟨x, hx, rfl⟩ := List.mem_map.1 hr; exact (h1.el x hx).2
 have hS2 : EZ' (l2.map (·.d)) := fun r hr => by
  obtain ⟨x, hx, rfl⟩ := List.mem_map.1 hr; exact (h2.el x hx).2
 obtain ⟨j, hj, hw⟩ := RJ' hS1 hS2 kp tr; have hw : AH' (DT' kp tr ([[]] ++ l1.map (·.d)) (l2.map (·.d))) = ([[]] ++ l1.map (·.d)) ++ (l2.map (·.d)).take j := hw; have hRl := NQ' kp tr (l2.map (·.d)).length ((l2.map (·.d)).map AR') (cat ([[]] ++ l1.map (·.d))).length 0 (cat ([[]] ++ l1.map (·.d))) (Yd); rw [XZ'] at hRl
 have hc1 : (cat ([[]] ++ l1.map (·.d))).length = 8 + (cat (l1.map (·.d))).length := by rw [GH', la']; rfl
 have hc2 : (cat (([[]] ++ l1.map (·.d)) ++ l2.map (·.d))).length = 8 + (cat (l1.map (·.d))).length + (cat (l2.map (·.d))).length := by rw [GH', la', hc1]
 have hR1 : 0 < (DT' kp tr ([[]] ++ l1.map (·.d)) (l2.map (·.d))).length := by
  have := hRl.1; show 0 < (crS _ _ _ _ _ _ _).length; omega
 have hR2 : (DT' kp tr ([[]] ++ l1.map (·.d)) (l2.map (·.d))).length <= 1099511627776 := by
  have := hRl.2; show (crS _ _ _ _ _ _ _).length <= _; omega
 have hne : AH' (DT' kp tr ([[]] ++ l1.map (·.d)) (l2.map (·.d))) ≠ [] := by rw [hw]; simp
 have hml : (AH' (DT' kp tr ([[]] ++ l1.map (·.d)) (l2.map (·.d)))).length = 1 + l1.length + j := by
  rw [hw, la', la', List.length_take, List.length_map, List.length_map]; rw [List.length_map] at hj; show 1 + _ + _ = _; omega
 rw [List.length_map] at hj
 have hV : RowT W.cell? (([.slice none 0 0] ++ rwV l1) ++ rwV l2) (AH' (DT' kp tr ([[]] ++ l1.map (·.d)) (l2.map (·.d)))) := by
  rw [hw]; intro i r hi
  have hi : (([[]] ++ l1.map (·.d)) ++ l2.map (·.d))[i]? = some r := by
   have : (([[]] ++ l1.map (·.d)) ++ l2.map (·.d)) = (([[]] ++ l1.map (·.d)) ++ (l2.map (·.d)).take j) ++ (l2.map (·.d)).drop j := by rw [as' _ (List.take _ _) _, List.take_append_drop]
   rw [this]; have hl := (List.getElem?_eq_some_iff.1 hi).1; rw [List.getElem?_append_left hl]; exact hi
  have hP : PB ({ d := [], a := none, c := 0 } :: (l1 ++ l2)) W.cell? := by
   intro x hx
   rcases List.mem_cons.1 hx with rfl | hx
   ·exact ⟨⟨Nat.zero_le _, fun _ _ h => by cases h⟩, Yd⟩
   ·rcases List.mem_append.1 hx with hx | hx
    ·exact (h1.el x hx).1
    ·exact (h2.el x hx).1
  have := QP' hP i r (by simpa using hi)
  have e : rwV ({ d := [], a := none, c := 0 } :: (l1 ++ l2)) = ([.slice none 0 0] ++ rwV l1) ++ rwV l2 := by simp [rwV, Rs.val]
  rwa [e] at this
 have K1 : LkK W o1 l1 [[]] [.slice none 0 0] := ⟨hN, h1, by rw [cat_e]; omega, by omega, by show 1 + _ < _; omega⟩
 have hVl : ([sl' none 0 0] ++ rwV l1).length = 1 + l1.length := by rw [la', rwV, List.length_map]; rfl
 have K2 : LkK W o2 l2 ([[]] ++ l1.map (·.d)) ([.slice none 0 0] ++ rwV l1) := ⟨hN, h2, by omega, by omega, by rw [hVl]; omega⟩
 have p1 := fun F hF => lL1_ok K1 o2 c1 l2.length c2 ok kp.length ck (1 + l1.length) tr rfl F hF
 have p2 := fun F hF => lL2_ok K2 o1 l1.length c1 c2 ok kp.length ck (1 + l1.length) (1 + l1.length + l2.length) tr hVl.symm (by rw [hVl]) F hF
 have q1 := fun F hF => PU' hN F hF
 have q2 := fun F => cDo_ok (DT' kp tr ([[]] ++ l1.map (·.d)) (l2.map (·.d))) ω hR1 F
 have q3 := fun F hF => Y1' hN (DT' kp tr ([[]] ++ l1.map (·.d)) (l2.map (·.d))) hR2 hne F hF
 have q4 := fun F => cLs_ok [[]] (l1.map (·.d)) (o' (cat ([[]] ++ l1.map (·.d))).length) (by rw [cat_e]; omega) ω (by rw [List.length_map]; omega) F
 have q5 := fun F hF => cCr_ok ([[]] ++ l1.map (·.d)) (l2.map (·.d)) ok kp ck tr hK ω ω (by rw [List.length_map]; omega) F hF
 have q6 := fun F hF => cSm_ok (([.slice none 0 0] ++ rwV l1) ++ rwV l2) (AH' (DT' kp tr ([[]] ++ l1.map (·.d)) (l2.map (·.d)))) (by rw [hml]; omega) hV F hF
 generalize DT' kp tr ([[]] ++ l1.map (·.d)) (l2.map (·.d)) = R at hw hR1 hR2 hne hml hV q2 q3 q5 q6
 have Q : ∀ F, AL' W F -> ∀ x ∈ TL' (AH' R).length R.length kp.length ck ok tr (o' (cat [[]]).length) (o' (cat ([[]] ++ l1.map (·.d))).length) R zHP (fHP R) (dO [[]] []) (dO [[]] (l1.map (·.d))) (dO ([[]] ++ l1.map (·.d)) []) (dO ([[]] ++ l1.map (·.d)) (l2.map (·.d))) (rbO (AH' R)) (([.slice none 0 0] ++ rwV l1) ++ rwV l2), C1OK Θ F x.1 x.2 :=
  fun F hF => AJ' (q1 F hF) (AJ' (q2 F) (AJ' (q3 F hF) (AJ' (q4 F) (AJ' (q5 F hF) (C6' (q6 F hF))))))
 clear q1 q2 q3 q4 q5 q6
 have P : ∀ F, AL' W F -> ∀ x ∈ lcKp o1 o2 ok l1.length c1 l2.length c2 kp.length ck (1 + l1.length) (1 + l1.length + l2.length) tr (o' (cat [[]]).length) (o' (cat ([[]] ++ l1.map (·.d))).length) (o' (cat (([[]] ++ l1.map (·.d)) ++ l2.map (·.d))).length) (dO [[]] []) (dO [[]] (l1.map (·.d))) (dO ([[]] ++ l1.map (·.d)) []) (dO ([[]] ++ l1.map (·.d)) (l2.map (·.d))) ([.slice none 0 0] ++ rwV l1) (([.slice none 0 0] ++ rwV l1) ++ rwV l2), L1OK Θ F x.2.2.1 x.2.2.2 :=
  fun F hF x hx => by
   rcases List.mem_cons.1 hx with rfl | hx
   ·exact p1 F hF
   ·obtain rfl := List.mem_singleton.1 hx; exact p2 F hF
 clear p1 p2; refine kp_run W o1 o2 ok l1.length c1 l2.length c2 kp.length ck (1 + l1.length) (1 + l1.length + l2.length) (AH' R).length R.length tr (o' (cat [[]]).length) (o' (cat ([[]] ++ l1.map (·.d))).length) (o' (cat (([[]] ++ l1.map (·.d)) ++ l2.map (·.d))).length) R zHP (fHP R) (dO [[]] []) (dO [[]] (l1.map (·.d))) (dO ([[]] ++ l1.map (·.d)) []) (dO ([[]] ++ l1.map (·.d)) (l2.map (·.d))) (rbO (AH' R)) ([.slice none 0 0] ++ rwV l1) (([.slice none 0 0] ++ rwV l1) ++ rwV l2) ?_ ?_ (fun _ => rfl) (fun _ => rfl) (fun _ => rfl) (fun _ => rfl) (fun _ => rfl) ω ω
 ·with_reducible exact Q
 ·with_reducible exact P
end Go.Proofs.YtgahllbgipdchaaGreatDoor.Wk
namespace Go.Proofs.YtgahllbgipdchaaGreatDoor
open Go
theorem HJ' {α : Type} {f : α -> List Value} {m : Nat} (hf : ∀ x, (f x).length = m) : ∀ (l : List α) (k j : Nat) (h : k < l.length), j < m -> (l.flatMap f)[k * m + j]? = (f l[k])[j]?
 | [], _, _, h, _ => by simp at h
 | x :: l, 0, j, _, hj => by
  rw [List.flatMap_cons, Nat.zero_mul, Nat.zero_add, List.getElem?_append_left (by rw [hf]; exact hj)]; rfl
 | x :: l, k + 1, j, h, hj => by
  rw [List.flatMap_cons, List.getElem?_append_right (by rw [hf, Nat.add_mul]; omega), hf, show (k + 1) * m + j - m = k * m + j from by rw [Nat.add_mul]; omega]
  exact HJ' hf l k j (by simpa using h) hj
theorem H0' {α : Type} {f : α -> List Value} {m : Nat} (hf : ∀ x, (f x).length = m) (l : List α) : (l.flatMap f).length = l.length * m := by
 induction l with
 | nil => simp
 | cons p l ih => simp only [List.flatMap_cons, List.length_append, hf, List.length_cons, ih, Nat.add_mul]; omega
open Go.ChangeShapes Go.WideShapes Go.RowKit Go.Deep
section
variable {H : Type} {enc : TypeId × Value -> H} {P : Program} {w : World} {base : Nat} {spare : Nat -> Bool} {held : Bool}
def S8' (P : Program) (t : TypeId) (d : DataW H) : Prop := ∀ n ∈ d.weights P t, n <= reachBytes
theorem S8'.len {t e : TypeId} {elems sp : List (DataW H)} (hu : P.underlying t = some (.slice e)) (h : S8' P t (.slice elems sp)) : (elems.length + sp.length) * P.bytesOf e <= reachBytes :=
 h _ (by simp only [DataW.weights, hu, List.mem_cons, true_or])
theorem S8'.field {t : TypeId} {fs : Array Field} {parts : List (DataW H)} (hu : P.underlying t = some (.struct fs)) (h : S8' P t (.agg parts)) {i : Nat} {f : Field} {d : DataW H} (hf : fs[i]? = some f) (hp : parts[i]? = some d) : S8' P f.type d := fun n hn => by
 refine h n ?_; simp only [DataW.weights, hu]; exact DataW.weights_mem_each (j := i) (by simp [hf]) hp n hn
end
end Go.Proofs.YtgahllbgipdchaaGreatDoor
namespace Go.Proofs.YtgahllbgipdchaaGreatDoor.Upto
open Go.ChangeShapes Go.WideShapes Go.RowKit Go.Deep
theorem one_le {H : Type} (d : DataW H) : 1 <= Rows.uptoBulk d := by
 cases d with
 | lit l => cases l <;> simp [Rows.uptoBulk]
 | nil => simp [Rows.uptoBulk]
 | ptr d => simp [Rows.uptoBulk]
 | slice elems spare => simp [Rows.uptoBulk]
 | agg parts => simp [Rows.uptoBulk]
 | iface t d => simp [Rows.uptoBulk]
 | map entries => simp [Rows.uptoBulk]
 | held h => simp [Rows.uptoBulk]
theorem VH' {H : Type} {d : DataW H} {l : List (DataW H)} (h : d ∈ l) : Rows.uptoBulk d <= Rows.uptoBulkAll l := by
 induction l with
 | nil => cases h
 | cons x r ih =>
  simp only [Rows.uptoBulkAll]
  cases List.mem_cons.1 h with
  | inl e => subst e; omega
  | inr e => have := ih e; omega
theorem length_le {H : Type} (l : List (DataW H)) : l.length <= Rows.uptoBulkAll l := by
 induction l with
 | nil => simp [Rows.uptoBulkAll]
 | cons x r ih => have := one_le x; simp only [Rows.uptoBulkAll, List.length_cons]; omega
theorem slice_elems {H : Type} (elems spare : List (DataW H)) : Rows.uptoBulkAll elems + 1 <= Rows.uptoBulk (.slice elems spare) := by
 simp only [Rows.uptoBulk]; omega
theorem agg_part {H : Type} {parts : List (DataW H)} {d : DataW H} (h : d ∈ parts) : Rows.uptoBulk d + 1 <= Rows.uptoBulk (.agg parts) := by
 have := VH' h; simp only [Rows.uptoBulk]; omega
theorem bound {H : Type} {l : List (DataW H)} (hk : Rows.uptoSmall H l = true) : Rows.uptoBulkAll l <= 1048576 := of_decide_eq_true hk
theorem OK' {H α : Type} (wt : α -> Nat) : ∀ (l : List α) (ds : List (DataW H)), l.length = ds.length -> (∀ (i : Nat) (p : α) (d : DataW H), l[i]? = some p -> ds[i]? = some d -> wt p <= Rows.uptoBulk d) -> (l.map wt).sum <= Rows.uptoBulkAll ds
 | [], [], _, _ => Nat.zero_le _
 | [], _ :: _, h, _ => by cases h
 | _ :: _, [], h, _ => by cases h
 | p :: l, d :: ds, h, hw => by
  have h1 := hw 0 p d rfl rfl
  have h2 := OK' wt l ds (by simpa using h) fun i q e hq he => hw (i + 1) q e hq he
  simp only [List.map_cons, List.sum_cons, Rows.uptoBulkAll]; omega
theorem open_rdU {H : Type} {enc : TypeId × Value -> H} {P : Program} {w : World} {base : Nat} {spare : Nat -> Bool} {held : Bool} {α : Type} (f : α -> List Value) {size : Nat} (h0 : 0 < size) (hf : ∀ x, (f x).length = size) {t e : TypeId} (ht : P.underlying t = some (.slice e)) (hC : P.cellsOf e = size)
  {Q : α -> Prop} (wt : α -> Nat) (hopen : ∀ (n : Nat) (cs : List Value) (x : DataW H × List MemPlace), DataW.trod enc P w base spare held n e cs = some x -> ∃ p : α, cs = f p /\ Q p /\ wt p <= Rows.uptoBulk x.1)
  {fuel : Nat} {A : Option Addr} {len cap : Nat} {x : DataW H × List MemPlace} (h : DataW.trod enc P w base spare held fuel t [.slice A len cap] = some x) :
  ∃ l : List α, l.length = len /\ Rd w A len size (l.flatMap f) /\ (∀ p ∈ l, Q p) /\ (l.map wt).sum + 1 <= Rows.uptoBulk x.1 := by
 rcases open_slice ht h with ⟨hcs, _⟩ | ⟨a, len', cap', m, n, D, Pl, hcs, hb, hl, hm, hmm, hx, hi⟩
 ·simp only [List.cons.injEq, Value.slice.injEq, and_true] at hcs; obtain ⟨rfl, rfl, rfl⟩ := hcs; exact ⟨[], rfl, Rd.nil _, (fun p hp => by cases hp), one_le x.1⟩
 ·simp only [List.cons.injEq, Value.slice.injEq, and_true] at hcs; obtain ⟨rfl, rfl, rfl⟩ := hcs
  have hlm : len <= m := by rw [hmm]; split <;> omega
  have hall : ∀ i : Fin len, ∃ p : α, Q p /\ wt p <= Rows.uptoBulk (D i.1) /\ ∀ j u, (f p)[j]? = some u -> w.cell? (a.add (i.1 * size + j)) = some u := fun i => by
   obtain ⟨cs', hc, ht'⟩ := hi i.1 ω; obtain ⟨p, rfl, hq, hwt⟩ := hopen _ _ _ ht'
   refine ⟨p, hq, hwt, fun j u hu => ?_⟩
   obtain ⟨_, hcl, hat⟩ := World.cells?_some hc
   have hj : j < P.cellsOf e := by rw [hC, <- hf p]; exact (List.getElem?_eq_some_iff.1 hu).1
   rw [<- hu, <- hat j hj, hC, TT']
  obtain ⟨g, hg⟩ := Classical.axiomOfChoice hall
  refine ⟨List.ofFn g, by simp, ?_, fun p hp => ?_, ?_⟩
  rotate_left
  ·obtain ⟨i, rfl⟩ := List.mem_ofFn.1 hp; exact (hg i).1
  ·rw [hx]; refine Nat.le_trans (Nat.succ_le_succ ?_) (slice_elems _ _)
   refine OK' wt _ _ (by simp) fun i p d hp hd => ?_
   rw [List.getElem?_ofFn] at hp; split at hp
   ·rename_i hlt; rw [List.getElem?_map, List.getElem?_range hlt] at hd; cases hp; have hd := Option.some.inj hd; rw [<- hd]; exact (hg ⟨i, hlt⟩).2.1
   ·cases hp
  refine ⟨by rw [H0' hf]; simp, fun _ => ⟨a, rfl⟩, fun ad he j u hu => ?_⟩
  obtain rfl := Option.some.inj he
  have hj : j < len * size := by
   have := (List.getElem?_eq_some_iff.1 hu).1; rw [H0' hf] at this; simpa using this
  have hq : j / size < len := by rw [Nat.div_lt_iff_lt_mul h0]; exact hj
  have hd : j / size * size + j % size = j := by rw [Nat.mul_comm]; exact Nat.div_add_mod j size
  have hk : j / size < (List.ofFn g).length := by simpa using hq
  have hp := HJ' hf (List.ofFn g) (j / size) (j % size) hk (Nat.mod_lt _ h0); rw [hd, hu] at hp; have := (hg ⟨j / size, hq⟩).2.2 (j % size) u (by rw [hp]; simp)
  rwa [hd] at this
end Go.Proofs.YtgahllbgipdchaaGreatDoor.Upto
namespace Go.Proofs.YtgahllbgipdchaaGreatDoor.Wit
open Go
theorem row_zip {H : Type} {enc : TypeId × Value -> H} {C : Checked} {os : Os} {f : FuncId} {fn : Func} {s : OpenSpec} {conds : List PathCond} {apart : Bool} {laid : List (String × DataW Unit)} (w0 : World) (args : Array Value) (hos : w0.os = os)
  (hv : (w0.forCall (fun _ _ => 0) ⟨#[], args, []⟩).variablesZipB C.prog = true)
  (hr : ((w0.forCall (fun _ _ => 0) ⟨#[], args, []⟩).heap.toList.drop C.prog.globals.size).take ((begin C.prog (fun _ _ => 0) default).world.heap.size - C.prog.globals.size) =
   (begin C.prog (fun _ _ => 0) default).world.heap.toList.drop C.prog.globals.size)
  (hok : Input.okWideB C.prog (w0.forCall (fun _ _ => 0) ⟨#[], args, []⟩) f ⟨#[], args, []⟩ = true)
  (hrow : s.preRow enc C.prog fn conds apart laid (w0.forCall (fun _ _ => 0) ⟨#[], args, []⟩).memory args) :
  ∃ (w : World) (tape : Tape) (i : Input), w.os = os /\ (w.forCall tape i).Shaped C.prog /\ i.vars = [] /\ Input.okWide C.prog (w.forCall tape i) .any w.heap.size f i /\
   s.preRow enc C.prog fn conds apart laid (w.forCall tape i).memory i.args /\ ({} : Assume).holds C.prog (lone (Frame.enter C.prog f i.args .normal) [] (w.forCall tape i)) :=
 ⟨w0, fun _ _ => 0, ⟨#[], args, []⟩, hos, World.shaped_of_ZipB hv hr, (Input.okWide_of_okWideB (base := 0) hok).1, (Input.okWide_of_okWideB hok).2, hrow, by
  simp [Assume.holds]⟩
end Go.Proofs.YtgahllbgipdchaaGreatDoor.Wit
namespace Go.Proofs.YtgahllbgipdchaaGreatDoor.Wk
open Go Go.RowKit Eng Kit
open Go.ChangeShapes Go.WideShapes Go.Deep
section
variable {H : Type} {enc : TypeId × Value -> H} {w : World} {base : Nat} {spare : Nat -> Bool} {held : Bool}
theorem XL' {n : Int} (h : (Lit.int .u8 n).wf = true) : 0 <= n /\ n <= 255 := by
 simp only [Lit.wf, Bool.and_eq_true, decide_eq_true_eq] at h
 have h1 : IntKind.u8.min = 0 := δ
 have h2 : IntKind.u8.max = 255 := δ
 rw [h1, h2] at h; exact h
structure RsQ (w : World) (x : Rs) : Prop where
 at' : ∀ (i : Nat) (b : UInt8), x.d[i]? = some b -> ∃ a, x.a = some a /\ w.cell? (a.add (i * 1)) = some (.int .u8 (b.toNat : Int))
 cap : x.d.length <= x.c
def encR (x : Rs) : List Value := [x.val]
theorem encR_len (x : Rs) : (encR x).length = 1 := rfl
def wtR (x : Rs) : Nat := x.d.length + 1
theorem open_bt (fuel : Nat) (cs : List Value) (x : DataW H × List MemPlace) (h : DataW.trod enc Θ w base spare held fuel 49 cs = some x) : ∃ p : Rs, cs = encR p /\ RsQ w p /\ wtR p <= Rows.uptoBulk x.1 := by
 rcases open_slice1 Tryz.underlying49 χ h with ⟨hcs, _⟩ | ⟨a, len, cap, m, n, V, D, Pl, hcs, hb, hl, hm, hmm, hx, hi⟩
 ·exact ⟨⟨[], none, 0⟩, hcs, ⟨fun i b h => (by cases h), Yd⟩, Upto.one_le x.1⟩
 ·have hlm : len <= m := by rw [hmm]; split <;> omega
  have hall : ∀ i : Fin len, ∃ b : UInt8, w.cell? (a.add (i.1 * 1)) = some (.int .u8 b.toNat) := fun i => by
   obtain ⟨hc, ht⟩ := hi i.1 ω; obtain ⟨z, e, _, hz⟩ := DataW.trod_int Tryz.underlying5 ht; obtain ⟨z0, z1⟩ := XL' hz; refine ⟨UInt8.ofNat z.toNat, ?_⟩; rw [Nat.mul_one, hc, (List.cons.inj e).1, UInt8.toNat_ofNat']
   congr 2
   omega
  obtain ⟨g, hg⟩ := Classical.axiomOfChoice hall
  refine ⟨⟨List.ofFn g, some a, cap⟩, by rw [hcs]; simp [encR, Rs.val], ⟨fun j b hj => ?_, by simpa using hl⟩, ?_⟩
  ·replace hj : (List.ofFn g)[j]? = some b := hj
   rw [List.getElem?_ofFn] at hj; split at hj
   ·rename_i hlt; cases hj; exact ⟨a, rfl, hg ⟨j, hlt⟩⟩
   ·cases hj
  ·rw [hx]; refine Nat.le_trans (Nat.succ_le_succ ?_) (Upto.slice_elems _ _); refine Nat.le_trans ?_ (Upto.length_le _); simp
theorem QH' {x : Rs} : ∀ {l : List Rs}, x ∈ l -> wtR x <= (l.map wtR).sum
 | y :: l, h => by
  rw [List.map_cons, List.sum_cons]
  rcases List.mem_cons.1 h with rfl | h
  ·omega
  ·have := QH' h; omega
theorem argR_of {A : Option Addr} {l : List Rs} (h : Rd w A l.length 1 (l.flatMap encR)) (hq : ∀ p ∈ l, RsQ w p) (hb : (l.map wtR).sum <= 1048576) : ArgR w A l where
 at' := fun i x hx => by
  have hi := (List.getElem?_eq_some_iff.1 hx).1; have hp := HJ' encR_len l i 0 hi δ; rw [Nat.add_zero, (List.getElem?_eq_some_iff.1 hx).2] at hp; obtain ⟨a, rfl⟩ := h.here ω; exact ⟨a, rfl, h.cells a rfl _ _ hp⟩
 el := fun x hx => by
  have h1 := QH' hx; have h2 : x.d.length + 1 <= 1048576 := Nat.le_trans h1 hb
  exact ⟨⟨⟨by show _ <= 140737488351232; omega, (hq x hx).at'⟩, (hq x hx).cap⟩, by show _ <= 1048576; omega⟩
theorem PS' {fuel : Nat} {cs : List Value} {x : DataW H × List MemPlace} (h : DataW.trod enc Θ w base spare held fuel 47 cs = some x) : ∃ (ok : Option Addr) (kp : List Bool) (ck : Nat) (tr : Int), cs = [.slice ok kp.length ck, .int .i64 tr] /\ (∀ i b, kp[i]? = some b -> ∃ ak, ok = some ak /\ w.cell? (ak.add (i * 1)) = some (.bool b)) /\ kp.length + 1 <= Rows.uptoBulk x.1 := by
 obtain ⟨ys, n, _, hx, hlen, hyl, hf⟩ := DataW.trod_struct Tryz.underlying47 h
 have zI : Θ.cellsOf 3 = 1 := χ
 have zB : Θ.cellsOf 45 = 1 := χ
 match cs, hlen.trans (by kernel_rfl : Θ.cellsOf 47 = 2) with
 | [c0, c1], _ =>
  match ys, hyl with
  | [y0, y1], _ =>
   have h0 : DataW.trod enc Θ w base spare held n 45 [c0] = some y0 := by simpa [zB] using hf 0 _ rfl
   obtain ⟨z, e1, _, _⟩ := DataW.trod_int Tryz.underlying3 (by simpa [zI] using hf 1 _ rfl : DataW.trod enc Θ w base spare held n 3 [c1] = some y1); obtain rfl := (List.cons.inj e1).1
   have hm : y0.1 ∈ List.map (fun y => y.1) [y0, y1] := by simp
   have hag := Upto.agg_part hm
   rcases open_slice1 Tryz.underlying45 χ h0 with ⟨hcs, _⟩ | ⟨a, len, cap, m, k, V, D, Pl, hcs, hb, hl, hmx, hmm, hx0, hi⟩
   ·obtain rfl := (List.cons.inj hcs).1
    exact ⟨none, [], 0, z, rfl, fun i b h => (by cases h), by rw [hx]; exact Nat.le_trans (Upto.one_le y0.1) (Nat.le_trans (Nat.le_succ _) hag)⟩
   ·obtain rfl := (List.cons.inj hcs).1
    have hlm : len <= m := by rw [hmm]; split <;> omega
    have hall : ∀ i : Fin len, ∃ b : Bool, w.cell? (a.add (i.1 * 1)) = some (.bool b) := fun i => by
     obtain ⟨hc, ht⟩ := hi i.1 ω; obtain ⟨b, e, _⟩ := DataW.trod_bool Tryz.underlying4 ht
     exact ⟨b, by rw [Nat.mul_one, hc, (List.cons.inj e).1]⟩
    obtain ⟨g, hg⟩ := Classical.axiomOfChoice hall
    refine ⟨some a, List.ofFn g, cap, z, by simp, fun j b hj => ?_, ?_⟩
    ·rw [List.getElem?_ofFn] at hj; split at hj
     ·rename_i hlt; cases hj; exact ⟨a, rfl, hg ⟨j, hlt⟩⟩
     ·cases hj
    ·rw [hx]; refine Nat.le_trans ?_ (Nat.le_trans (Nat.le_succ _) hag); rw [hx0]; refine Nat.le_trans (Nat.succ_le_succ ?_) (Upto.slice_elems _ _); refine Nat.le_trans ?_ (Upto.length_le _); simp
theorem open_fate {r : Reach} {b0 : Nat} {v : Value} {d : DataW H} {p : List MemPlace} (hv : Value.okWide Θ w r b0 47 v) (h : DataW.Trod enc Θ w base spare held 47 v d p) :
  ∃ (ok : Option Addr) (kp : List Bool) (ck : Nat) (tr : Int), v = .agg #[.slice ok kp.length ck, .int .i64 tr] /\ (∀ i b, kp[i]? = some b -> ∃ ak, ok = some ak /\ w.cell? (ak.add (i * 1)) = some (.bool b)) /\ kp.length + 1 <= Rows.uptoBulk d := by
 obtain ⟨cs, rfl, hsz⟩ := okWide_struct Tryz.underlying47 hv; obtain ⟨fuel, hf⟩ := h; obtain ⟨ok, kp, ck, tr, hc, hk, hb⟩ := PS' hf
 exact ⟨ok, kp, ck, tr, by rw [show cs = #[.slice ok kp.length ck, .int .i64 tr] from Array.ext' hc], hk, hb⟩
theorem keeps_calls {W : World} (hN : LN W) {o1 o2 ok : Option Addr} {l1 l2 : List Rs} {kp : List Bool} (c1 c2 ck : Nat) (tr : Int) (h1 : ArgR W o1 l1) (h2 : ArgR W o2 l2) (hK : KAt W ok kp) (hb : wRs l1 + wRs l2 <= 1048576) :
  Calls Θ fKp #[.slice o1 l1.length c1, .slice o2 l2.length c2, .agg #[.slice ok kp.length ck, .int .i64 tr]] W fun e w' => e = .returned (.bool true) /\ Below W.heap.size W w' := by
 refine (R6' W hN c1 c2 ck tr h1 h2 hK hb W (HP.old W) (fun _ => none) W #[.slice o1 l1.length c1, .slice o2 l2.length c2, .agg #[.slice ok kp.length ck, .int .i64 tr]] (SV' W) (fun _ _ _ => rfl) (KG' W) ?_).mono ?_
 ·refine AB'.2 ⟨rfl, AB'.2 ⟨rfl, AB'.2 ⟨⟨[.slice ok kp.length ck, .int .i64 tr], VRs.vmap [_, _], rfl⟩, rfl⟩⟩⟩
 rintro e w' ⟨y, rfl, N', _, _, r, hv⟩; have hy : y = .bool true := VR_v.1 (AB'.1 hv).1; subst hy; exact ⟨rfl, r.old_below⟩
end
end Go.Proofs.YtgahllbgipdchaaGreatDoor.Wk
