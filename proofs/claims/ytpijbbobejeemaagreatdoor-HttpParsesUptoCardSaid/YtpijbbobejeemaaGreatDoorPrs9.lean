/- Parts of the proof, merged. -/
import Derived.Test.YtpijbbobejeemaaGreatDoorPrs8
import Derived.Test.YtpijbbobejeemaaGreatDoorPrs6
import Derived.Test.YtpijbbobejeemaaGreatDoorMem
import Derived.Deep.Slices
import Derived.SizedLaws
import Derived.Test.YtpijbbobejeemaaGreatDoorRows
import Derived.Deep.DeepHandedRow
import Derived.Lay
import Derived.ProofKit
import Derived.OpenShut
import Derived.Deep.Fields
import Derived.ChangeSame
set_option linter.unusedVariables false
set_option linter.unusedSimpArgs false
set_option linter.unusedSectionVars false
set_option maxRecDepth 100000
namespace Go.Proofs.YtpijbbobejeemaaGreatDoor.Htp
open Go Go.RowKit Eng Kit
def nrV (s : Nat) : AV := .tuple [rz0, bv false, iv (Int.ofNat s), iv (Int.ofNat 0)]
theorem E5' (F : HP) {P w : List UInt8} {off : Nat} (hw : (P.drop off).take w.length = w) (hoff : off + w.length ≤ P.length) (hl : w.length ≤ 4000000) {n : Nat} (hn : w.length = n) {M : List ByteArray} (hM : (lnsR w w.length 0 0).map tB = M) {k : Nat} (hk : M.length = k + 1) (hb : k ≤ 4000000) : C1OK Tryz.prog F fRLs (cRLs P M off n k) := by
 subst hn
 exact BK' (AE'.nothing F) (fun _ => sB 1000 k) GT' (fun _ => rfl) (fun _ _ => TM' hw hoff hl hM hk hb) fun _ => ⟨rfl, rfl, ⟨rfl, t0⟩, A0' (AM' _ _) A3', ⟨rfl, t0⟩, A0' (AM' _ _) (A0' (DB' _ _) A3')⟩
theorem KK' (L : Hds) (j : Nat) (hj : j < L.length) {k v : ByteArray} (h : L.getD j pr0 = (k, v)) (d : AV) : (rowV encP L).getD (0 + j * 2 + 1) d = sv v := by
 have := JZ' (k := 2) EF' L pr0 j hj 1 (by decide) (.string (L.getD j pr0).2) rfl d
 rw [h] at this
 simpa [sv] using this
theorem IH' {n k : Nat} (h : n ≠ k) : ((Int.ofNat n : Int) == Int.ofNat k) = false := by rw [beq_eq_false_iff_ne]; simp only [Z0]; omega
section
variable {P w : List UInt8} {off : Nat} (hw : P.drop off = w) (hoff : off + w.length = P.length) (hl : w.length ≤ 4000000)
include hw hoff hl
theorem hwt : (P.drop off).take w.length = w := by rw [hw, List.take_length]
theorem rn1 (hz : CZ' w = 0) (h8 : 8192 < w.length) : Tri Tryz.prog default fRNx [sO 0 off w.length] [(0, rB1 P)] (nrV 413) [(0, rB1 P)] := by
 refine AA' (con := [(fRHd, cRHd P off w.length 0)]) (hints := AB' (hR1 false true true true)) (lc := []) kR rfl (fun F hF => AP' (CW' F (hwt hw hoff hl) (by omega) hl hz)) (fun F hF => noL) fun F => ?_
 refine cv (oR1_eq P off w.length F) ⟨⟨?_, (AF' (vs' := [nrV 413]) (H' := [(0, rB1 P)]) [] rfl rfl (v0) ⟨⟨_, rfl, AJ' (by simp only [A2']) rfl⟩, t0⟩).fits rfl⟩⟩
 simp only [Cnd.holds, A2', Nat.blt_eq, true_and, and_true]
 and_intros
 all_goals first
  | exact A1' (decide_eq_true (by simp only [Z0, Z1, Z2]; omega))
  | exact A1' (decide_eq_false (by simp only [Z0, Z1, Z2]; omega))
  | exact A1' (qe_t (by omega))
  | exact A1' (qe_f (by omega))
  | exact A1' (IH' (by omega))
  | (simp only [A2']; exact o0)
  | decide | (with_reducible first | exact t0 | exact r0 | exact A6' _ | assumption) | exact r0 | ((repeat (first | exact VW.nil | refine c1 ?_ | refine c2 ?_ | refine c3 ?_)); done)
theorem rn2 {n : Nat} (hz : CZ' w = n) (h8 : 8192 < n) : Tri Tryz.prog default fRNx [sO 0 off w.length] [(0, rB1 P)] (nrV 413) [(0, rB1 P)] := by
 refine AA' (con := [(fRHd, cRHd P off w.length n)]) (hints := AB' (hR1 true false false true)) (lc := []) kR rfl (fun F hF => AP' (CW' F (hwt hw hoff hl) (by omega) hl hz)) (fun F hF => noL) fun F => ?_
 refine cv (oR2_eq P off w.length n F) ⟨⟨?_, (AF' (vs' := [nrV 413]) (H' := [(0, rB1 P)]) [] rfl rfl (v0) ⟨⟨_, rfl, AJ' (by simp only [A2']) rfl⟩, t0⟩).fits rfl⟩⟩
 simp only [Cnd.holds, A2', Nat.blt_eq, true_and, and_true]
 and_intros
 all_goals first
  | exact A1' (decide_eq_true (by simp only [Z0, Z1, Z2]; omega))
  | exact A1' (decide_eq_false (by simp only [Z0, Z1, Z2]; omega))
  | exact A1' (qe_t (by omega))
  | exact A1' (qe_f (by omega))
  | exact A1' (IH' (by omega))
  | (simp only [A2']; exact o0)
  | decide | (with_reducible first | exact t0 | exact r0 | exact A6' _ | assumption) | exact r0 | ((repeat (first | exact VW.nil | refine c1 ?_ | refine c2 ?_ | refine c3 ?_)); done)
theorem rn3 (hz : CZ' w = 0) (h8 : ¬ 8192 < w.length) : Tri Tryz.prog default fRNx [sO 0 off w.length] [(0, rB1 P)] (nrV 0) [(0, rB1 P)] := by
 refine AA' (con := [(fRHd, cRHd P off w.length 0)]) (hints := AB' (hR1 false true false false)) (lc := []) kR rfl (fun F hF => AP' (CW' F (hwt hw hoff hl) (by omega) hl hz)) (fun F hF => noL) fun F => ?_
 refine cv (oR3_eq P off w.length F) ⟨⟨?_, (AF' (vs' := [nrV 0]) (H' := [(0, rB1 P)]) [] rfl rfl (v0) ⟨⟨_, rfl, AJ' (by simp only [A2']) rfl⟩, t0⟩).fits rfl⟩⟩
 simp only [Cnd.holds, A2', Nat.blt_eq, true_and, and_true]
 and_intros
 all_goals first
  | exact A1' (decide_eq_true (by simp only [Z0, Z1, Z2]; omega))
  | exact A1' (decide_eq_false (by simp only [Z0, Z1, Z2]; omega))
  | exact A1' (qe_t (by omega))
  | exact A1' (qe_f (by omega))
  | exact A1' (IH' (by omega))
  | (simp only [A2']; exact o0)
  | decide | (with_reducible first | exact t0 | exact r0 | exact A6' _ | assumption) | exact r0 | ((repeat (first | exact VW.nil | refine c1 ?_ | refine c2 ?_ | refine c3 ?_)); done)
variable {n : Nat} (hz : CZ' w = n) (h0 : n ≠ 0) (hn : n ≤ w.length) (h8 : n ≤ 8192) {M : List ByteArray} (hM : (lnsA [] (w.take n)).map tB = M)
include hz h0 hn h8 hM
theorem rn4 (hk : M.length = 1) : Tri Tryz.prog default fRNx [sO 0 off w.length] [(0, rB1 P)] (nrV 400) [(0, rB1 P)] := by
 have hnl : (w.take n).length = n := by rw [List.length_take]; omega
 have hw' : (P.drop off).take (w.take n).length = w.take n := by rw [hw, hnl]
 have hM' : (lnsR (w.take n) (w.take n).length 0 0).map tB = M := by rw [E0']; exact hM
 have e1 : n.ble w.length = true := by rw [Nat.ble_eq]; exact hn
 have e2 : w.length.ble w.length = true := by rw [Nat.ble_eq]; exact n0
 have hvw : VW [AV.slice 0 off n 1 (Cp.lo w.length)] [AV.slice 0 off n 1 (Cp.lo n)] := VW.cons (CY' hn) VW.nil
 refine AA' (con := [(fRHd, cRHd P off w.length n), (fRLs, cRLs P M off n 0)]) (hints := AB' (hR1 false false false false ++ hR2 true false nil0)) (lc := []) kR rfl (fun F hF => A5' (CW' F (hwt hw hoff hl) (by omega) hl hz) (AP' (E5' F hw' (by rw [hnl]; omega) (by omega) hnl hM' hk (by omega)))) (fun F hF => noL) fun F => ?_
 refine cv (oR4_eq P M off w.length n F) ⟨⟨?_, (AF' (vs' := [nrV 400]) (H' := [(0, rB1 P)]) [] rfl rfl (v0) ⟨⟨_, rfl, AJ' (by simp only [A2']) rfl⟩, t0⟩).fits rfl⟩⟩
 simp only [Cnd.holds, A2', e1, e2, Nat.blt_eq, true_and, and_true]
 and_intros
 all_goals first
  | exact hvw
  | exact A1' (decide_eq_true (by simp only [Z0, Z1, Z2]; omega))
  | exact A1' (decide_eq_false (by simp only [Z0, Z1, Z2]; omega))
  | exact A1' (qe_t (by omega))
  | exact A1' (qe_f (by omega))
  | exact A1' (IH' (by omega))
  | (simp only [A2']; exact o0)
  | decide | (with_reducible first | exact t0 | exact r0 | exact A6' _ | assumption) | exact r0 | ((repeat (first | exact VW.nil | refine c1 ?_ | refine c2 ?_ | refine c3 ?_)); done)
variable {l0 z0 : ByteArray} {ls : List ByteArray} (hMl : M = (l0 :: ls) ++ [z0]) (hb : ls.length ≤ 10000) (hsz : ∀ x ∈ M, x.size ≤ 8192)
include hMl hb hsz
theorem rn5 {m t : ByteArray} (hf : Tri Tryz.prog default fFst [sv l0] [] (.tuple [rqV m t nilP nilB, bv false]) []) : Tri Tryz.prog default fRNx [sO 0 off w.length] [(0, rB1 P)] (nrV 400) [(0, rB1 P)] := by
 have hnl : (w.take n).length = n := by rw [List.length_take]; omega
 have hw' : (P.drop off).take (w.take n).length = w.take n := by rw [hw, hnl]
 have hM' : (lnsR (w.take n) (w.take n).length 0 0).map tB = M := by rw [E0']; exact hM
 have e1 : n.ble w.length = true := by rw [Nat.ble_eq]; exact hn
 have e2 : w.length.ble w.length = true := by rw [Nat.ble_eq]; exact n0
 have hvw : VW [AV.slice 0 off n 1 (Cp.lo w.length)] [AV.slice 0 off n 1 (Cp.lo n)] := VW.cons (CY' hn) VW.nil
 have hk : M.length = (ls.length + 1) + 1 := by rw [hMl]; simp
 have g1 : ∀ d, (rowV encS M).getD 0 d = sv l0 := fun d => by rw [hMl]; rfl
 have g2 : Nat.blt 0 (rowV encS M).length = true := by rw [C5', hk, Nat.blt_eq]; omega
 have g4 : Nat.blt 0 (ls.length + 1) = true := by rw [Nat.blt_eq]; omega
 refine AA' (con := [(fRHd, cRHd P off w.length n), (fRLs, cRLs P M off n (ls.length + 1)), (fFst, cFi l0 m t false)]) (hints := AB' (hR1 false false false false ++ hR2 false true l0)) (lc := []) kR rfl (fun F hF => A5' (CW' F (hwt hw hoff hl) (by omega) hl hz) (A5' (E5' F hw' (by rw [hnl]; omega) (by omega) hnl hM' hk (by omega)) (AP' (HN' F hf)))) (fun F hF => noL) fun F => ?_
 refine cv (oR5_eq P M l0 m t off w.length n (ls.length + 1) F) ⟨⟨?_, (AF' (vs' := [nrV 400]) (H' := [(0, rB1 P)]) [] rfl rfl (v0) ⟨⟨_, rfl, AJ' (by simp only [A2']) rfl⟩, t0⟩).fits rfl⟩⟩
 simp only [Cnd.holds, A2', e1, e2, g1, g2, g4, sv, AV.strOf, Nat.blt_eq, true_and, and_true]
 and_intros
 all_goals first
  | exact hvw
  | exact A1' (decide_eq_true (by simp only [Z0, Z1, Z2]; omega))
  | exact A1' (decide_eq_false (by simp only [Z0, Z1, Z2]; omega))
  | exact A1' (qe_t (by omega))
  | exact A1' (qe_f (by omega))
  | exact A1' (IH' (by omega))
  | (simp only [A2']; exact o0)
  | decide | (with_reducible first | exact t0 | exact r0 | exact A6' _ | assumption) | exact r0 | ((repeat (first | exact VW.nil | refine c1 ?_ | refine c2 ?_ | refine c3 ?_)); done)
variable {m t : ByteArray} (hf : Tri Tryz.prog default fFst [sv l0] [] (.tuple [rqV m t nilP nilB, bv true]) [])
include hf
theorem rn6 (hh : C7' [] ls = none) : Tri Tryz.prog default fRNx [sO 0 off w.length] [(0, rB1 P)] (nrV 400) [(0, rB1 P)] := by
 have hnl : (w.take n).length = n := by rw [List.length_take]; omega
 have hw' : (P.drop off).take (w.take n).length = w.take n := by rw [hw, hnl]
 have hM' : (lnsR (w.take n) (w.take n).length 0 0).map tB = M := by rw [E0']; exact hM
 have e1 : n.ble w.length = true := by rw [Nat.ble_eq]; exact hn
 have e2 : w.length.ble w.length = true := by rw [Nat.ble_eq]; exact n0
 have hvw : VW [AV.slice 0 off n 1 (Cp.lo w.length)] [AV.slice 0 off n 1 (Cp.lo n)] := VW.cons (CY' hn) VW.nil
 have hk : M.length = (ls.length + 1) + 1 := by rw [hMl]; simp
 have g1 : ∀ d, (rowV encS M).getD 0 d = sv l0 := fun d => by rw [hMl]; rfl
 have g2 : Nat.blt 0 (rowV encS M).length = true := by rw [C5', hk, Nat.blt_eq]; omega
 have g4 : Nat.blt 0 (ls.length + 1) = true := by rw [Nat.blt_eq]; omega
 refine AA' (con := [(fRHd, cRHd P off w.length n), (fRLs, cRLs P M off n (ls.length + 1)), (fFst, cFi l0 m t true)] ++ []) (hints := AB' (hR1 false false false false ++ hR2 false false l0)) (lc := [(fRNx, 14, A4' fRNx 14, lQx P M m t off w.length n (ls.length + 1))]) kR rfl (fun F hF => A5' (CW' F (hwt hw hoff hl) (by omega) hl hz) (A5' (E5' F hw' (by rw [hnl]; omega) (by omega) hnl hM' hk (by omega)) (AP' (HN' F hf)))) (fun F hF => BE' (AW' (AE'.nothing F) N4' (fun _ _ => by
  simp only [RT.pick]
  exact q_no hMl hb hsz m t off w.length n hh) fun _ => by
  simp only [RT.pick]
  exact AQ' rfl rfl (A0' rfl (A0' rfl (A0' rfl (A0' t0 (A0' rfl (A0' rfl (A0' t0 A3'))))))) (A0' ⟨t0, t0, t0, t0, t0⟩ (A0' ⟨t0, t0, t0, t0, t0⟩ (A0' ⟨t0, t0, t0, t0, t0⟩ (A0' (DB' _ _) (A0' (AM' _ _) A3'))))) (A0' rfl (A0' t0 (A0' t0 (A0' t0 A3')))) (A0' ⟨t0, t0, t0, t0, t0⟩ (A0' (AM' _ _) A3')))) fun F => ?_
 refine cv (oR6_eq P M l0 m t off w.length n (ls.length + 1) F) ⟨⟨?_, (AF' (vs' := [nrV 400]) (H' := [(0, rB1 P)]) [] rfl rfl (v0) ⟨⟨_, rfl, AJ' (by simp only [A2']) rfl⟩, t0⟩).fits rfl⟩⟩
 simp only [Cnd.holds, A2', e1, e2, g1, g2, g4, sv, AV.strOf, Nat.blt_eq, true_and, and_true]
 and_intros
 all_goals first
  | exact hvw
  | exact A1' (decide_eq_true (by simp only [Z0, Z1, Z2]; omega))
  | exact A1' (decide_eq_false (by simp only [Z0, Z1, Z2]; omega))
  | exact A1' (qe_t (by omega))
  | exact A1' (qe_f (by omega))
  | exact A1' (IH' (by omega))
  | (simp only [A2']; exact o0)
  | decide | (with_reducible first | exact t0 | exact r0 | exact A6' _ | assumption) | exact r0 | ((repeat (first | exact VW.nil | refine c1 ?_ | refine c2 ?_ | refine c3 ?_)); done)
theorem rn7z (hh : ls = []) : Tri Tryz.prog default fRNx [sO 0 off w.length] [(0, rB1 P)] (.tuple [rqV m t nilP (sB 1001 0), bv true, iv (Int.ofNat 0), iv (Int.ofNat n)]) [(0, rB1 P), (1001, rB [])] := by
 have hnl : (w.take n).length = n := by rw [List.length_take]; omega
 have hw' : (P.drop off).take (w.take n).length = w.take n := by rw [hw, hnl]
 have hM' : (lnsR (w.take n) (w.take n).length 0 0).map tB = M := by rw [E0']; exact hM
 have e1 : n.ble w.length = true := by rw [Nat.ble_eq]; exact hn
 have e2 : w.length.ble w.length = true := by rw [Nat.ble_eq]; exact n0
 have hvw : VW [AV.slice 0 off n 1 (Cp.lo w.length)] [AV.slice 0 off n 1 (Cp.lo n)] := VW.cons (CY' hn) VW.nil
 have hk : M.length = (ls.length + 1) + 1 := by rw [hMl]; simp
 have g1 : ∀ d, (rowV encS M).getD 0 d = sv l0 := fun d => by rw [hMl]; rfl
 have g2 : Nat.blt 0 (rowV encS M).length = true := by rw [C5', hk, Nat.blt_eq]; omega
 have g4 : Nat.blt 0 (ls.length + 1) = true := by rw [Nat.blt_eq]; omega
 have hwa := DL' (a := n) (b := 0) (by omega)
 have hws := CP' hn (by omega)
 have e4 : n.ble n = true := by rw [Nat.ble_eq]; exact n0
 have hvc : VW [AV.slice 0 (off + n * 1) 0 1 (Cp.lo (w.length - n))] [AV.slice 0 (off + n * 1) 0 1 (Cp.lo 0)] := VW.cons (CY' (Nat.zero_le _)) VW.nil
 subst hh
 refine AA' (con := [(fRHd, cRHd P off w.length n), (fRLs, cRLs P M off n (1)), (fFst, cFi l0 m t true)] ++ [(fFnd, NA' clB), (fCpy, cCp P [] (off + n * 1) 0)]) (hints := AB' (hR1 false false false false ++ hR2 false false l0 ++ (hR3 false nil0 false false false ++ hR4 n 0 false false))) (lc := [(fRNx, 14, A4' fRNx 14, lQz P M m t off w.length n 1)]) kR rfl (fun F hF => A5' (CW' F (hwt hw hoff hl) (by omega) hl hz) (A5' (E5' F hw' (by rw [hnl]; omega) (by omega) hnl hM' hk (by omega)) (A5' (HN' F hf) (A5' (K4' F clB) (AP' (W0' F (by omega) (by omega) rfl)))))) (fun F hF => BE' (AW' (AE'.nothing F) N4' (fun _ _ => by
  simp only [RT.pick]
  exact q_zero P M m t off w.length n) fun _ => by
  simp only [RT.pick]
  exact AQ' rfl rfl (A0' rfl (A0' rfl (A0' rfl (A0' t0 (A0' rfl (A0' rfl (A0' t0 A3'))))))) (A0' ⟨t0, t0, t0, t0, t0⟩ (A0' ⟨t0, t0, t0, t0, t0⟩ (A0' ⟨t0, t0, t0, t0, t0⟩ (A0' (DB' _ _) (A0' (AM' _ _) A3'))))) (A0' rfl (A0' rfl (A0' rfl (A0' t0 (A0' rfl A3'))))) (A0' ⟨t0, t0, t0, t0, t0⟩ (A0' ⟨t0, t0, t0, t0, t0⟩ (A0' ⟨t0, t0, t0, t0, t0⟩ (A0' (AM' _ _) A3')))))) fun F => ?_
 refine cv (dK' P M l0 m t off w.length n 1 [] F) ⟨⟨?_, (AF' (vs' := [.tuple [rqV m t nilP (sB 1001 0), bv true, iv (Int.ofNat 0), iv (Int.ofNat n)]]) (H' := [(0, rB1 P), (1001, rB [])]) [(1001, 1104)] rfl rfl (v0) ⟨⟨_, rfl, AJ' (by simp only [A2']) rfl⟩, ⟨_, rfl, BW' rfl rfl⟩, t0⟩).fits rfl⟩⟩
 simp only [Cnd.holds, A2', e1, e2, g1, g2, g4, sv, AV.strOf, hws, e4, Nat.sub_self, Nat.add_zero, Nat.blt_eq, true_and, and_true]
 and_intros
 all_goals first
  | exact hvw
  | exact hvc
  | exact AG' hwa
  | exact .inl rfl
  | exact A1' (decide_eq_true (by simp only [Z0, Z1, Z2]; omega))
  | exact A1' (decide_eq_false (by simp only [Z0, Z1, Z2]; omega))
  | exact A1' (qe_t (by omega))
  | exact A1' (qe_f (by omega))
  | exact A1' (IH' (by omega))
  | (simp only [A2']; exact o0)
  | decide | (with_reducible first | exact t0 | exact r0 | exact A6' _ | assumption) | exact r0 | ((repeat (first | exact VW.nil | refine c1 ?_ | refine c2 ?_ | refine c3 ?_)); done)
variable {L : Hds} (hh : C7' [] ls = some L) (hne : L ≠ [])
include hh hne
theorem rn7r (hg : getP L clB = none) : Tri Tryz.prog default fRNx [sO 0 off w.length] [(0, rB1 P)] (.tuple [rqV m t (sP 1000 L.length) (sB 1001 0), bv true, iv (Int.ofNat 0), iv (Int.ofNat n)]) [(0, rB1 P), (1000, rP L), (1001, rB [])] := by
 have hnl : (w.take n).length = n := by rw [List.length_take]; omega
 have hw' : (P.drop off).take (w.take n).length = w.take n := by rw [hw, hnl]
 have hM' : (lnsR (w.take n) (w.take n).length 0 0).map tB = M := by rw [E0']; exact hM
 have e1 : n.ble w.length = true := by rw [Nat.ble_eq]; exact hn
 have e2 : w.length.ble w.length = true := by rw [Nat.ble_eq]; exact n0
 have hvw : VW [AV.slice 0 off n 1 (Cp.lo w.length)] [AV.slice 0 off n 1 (Cp.lo n)] := VW.cons (CY' hn) VW.nil
 have hk : M.length = (ls.length + 1) + 1 := by rw [hMl]; simp
 have g1 : ∀ d, (rowV encS M).getD 0 d = sv l0 := fun d => by rw [hMl]; rfl
 have g2 : Nat.blt 0 (rowV encS M).length = true := by rw [C5', hk, Nat.blt_eq]; omega
 have g4 : Nat.blt 0 (ls.length + 1) = true := by rw [Nat.blt_eq]; omega
 have hwa := DL' (a := n) (b := 0) (by omega)
 have hws := CP' hn (by omega)
 have e4 : n.ble n = true := by rw [Nat.ble_eq]; exact n0
 have hvc : VW [AV.slice 0 (off + n * 1) 0 1 (Cp.lo (w.length - n))] [AV.slice 0 (off + n * 1) 0 1 (Cp.lo 0)] := VW.cons (CY' (Nat.zero_le _)) VW.nil
 have hLl : L.length ≤ 10000 := by
  have := BI' hh
  rw [List.length_nil] at this
  omega
 refine AA' (con := [(fRHd, cRHd P off w.length n), (fRLs, cRLs P M off n (ls.length + 1)), (fFst, cFi l0 m t true)] ++ [(fFnd, cFnd L clB (-1)), (fCpy, cCp P [] (off + n * 1) 0)]) (hints := AB' (hR1 false false false false ++ hR2 false false l0 ++ (hR3 false nil0 false false false ++ hR4 n 0 false false))) (lc := [(fRNx, 14, A4' fRNx 14, lQr P M m t L off w.length n (ls.length + 1))]) kR rfl (fun F hF => A5' (CW' F (hwt hw hoff hl) (by omega) hl hz) (A5' (E5' F hw' (by rw [hnl]; omega) (by omega) hnl hM' hk (by omega)) (A5' (HN' F hf) (A5' (E7' F (PU' L clB (by omega) hg)) (AP' (W0' F (by omega) (by omega) rfl)))))) (fun F hF => BE' (AW' (AE'.nothing F) N4' (fun _ _ => by
  simp only [RT.pick]
  exact Q8' hMl hb hsz m t off w.length n hh hne) fun _ => by
  simp only [RT.pick]
  exact AQ' rfl rfl (A0' rfl (A0' rfl (A0' rfl (A0' t0 (A0' rfl (A0' rfl (A0' t0 A3'))))))) (A0' ⟨t0, t0, t0, t0, t0⟩ (A0' ⟨t0, t0, t0, t0, t0⟩ (A0' ⟨t0, t0, t0, t0, t0⟩ (A0' (DB' _ _) (A0' (AM' _ _) A3'))))) (A0' rfl (A0' rfl (A0' rfl (A0' t0 (A0' rfl A3'))))) (A0' ⟨t0, t0, t0, t0, t0⟩ (A0' ⟨t0, t0, t0, t0, t0⟩ (A0' ⟨t0, t0, rfl, t0, t0⟩ (A0' (AM' _ _) (A0' (BN' _ _) A3'))))))) fun F => ?_
 refine cv (dL' P M l0 m t off w.length n (ls.length + 1) L [] F) ⟨⟨?_, (AF' (vs' := [.tuple [rqV m t (sP 1000 L.length) (sB 1001 0), bv true, iv (Int.ofNat 0), iv (Int.ofNat n)]]) (H' := [(0, rB1 P), (1000, rP L), (1001, rB [])]) [(1000, 1104), (1001, 1105)] rfl rfl (v0) ⟨⟨_, rfl, AJ' (by simp only [A2']) rfl⟩, ⟨_, rfl, BQ' (by simp only [A2']) rfl⟩, ⟨_, rfl, BW' (by first | rfl | simp only [A2']) rfl⟩, t0⟩).fits rfl⟩⟩
 simp only [Cnd.holds, A2', e1, e2, g1, g2, g4, sv, AV.strOf, hws, e4, Nat.sub_self, Nat.add_zero, Nat.blt_eq, true_and, and_true]
 and_intros
 all_goals first
  | exact hvw
  | exact hvc
  | exact AG' hwa
  | exact .inl rfl
  | exact A1' (decide_eq_true (by simp only [Z0, Z1, Z2]; omega))
  | exact A1' (decide_eq_false (by simp only [Z0, Z1, Z2]; omega))
  | exact A1' (qe_t (by omega))
  | exact A1' (qe_f (by omega))
  | exact A1' (IH' (by omega))
  | (simp only [A2']; exact o0)
  | decide | (with_reducible first | exact t0 | exact r0 | exact A6' _ | assumption) | exact r0 | ((repeat (first | exact VW.nil | refine c1 ?_ | refine c2 ?_ | refine c3 ?_)); done)
variable {v : ByteArray} {j : Nat} (hj : j < L.length) (hjv : L.getD j pr0 = (clB, v)) (hno : ∀ i, i < j → (L.getD i pr0).1 ≠ clB) (hvs : v.size ≤ 1000000)
include hj hjv hno hvs
theorem rn8 (hd : (v.data.toList.take 10).all qD = false) : Tri Tryz.prog default fRNx [sO 0 off w.length] [(0, rB1 P)] (nrV 400) [(0, rB1 P)] := by
 have hnl : (w.take n).length = n := by rw [List.length_take]; omega
 have hw' : (P.drop off).take (w.take n).length = w.take n := by rw [hw, hnl]
 have hM' : (lnsR (w.take n) (w.take n).length 0 0).map tB = M := by rw [E0']; exact hM
 have e1 : n.ble w.length = true := by rw [Nat.ble_eq]; exact hn
 have e2 : w.length.ble w.length = true := by rw [Nat.ble_eq]; exact n0
 have hvw : VW [AV.slice 0 off n 1 (Cp.lo w.length)] [AV.slice 0 off n 1 (Cp.lo n)] := VW.cons (CY' hn) VW.nil
 have hk : M.length = (ls.length + 1) + 1 := by rw [hMl]; simp
 have g1 : ∀ d, (rowV encS M).getD 0 d = sv l0 := fun d => by rw [hMl]; rfl
 have g2 : Nat.blt 0 (rowV encS M).length = true := by rw [C5', hk, Nat.blt_eq]; omega
 have g4 : Nat.blt 0 (ls.length + 1) = true := by rw [Nat.blt_eq]; omega
 have hLl : L.length ≤ 10000 := by
  have := BI' hh
  rw [List.length_nil] at this
  omega
 have g5 := KK' L j hj hjv
 have g6 : 0 + j * 2 + 1 < (rowV encP L).length := by rw [DC']; omega
 have g7 : j.blt L.length = true := by rw [Nat.blt_eq]; exact hj
 have hfd := E8' L clB (by omega) j hj (by rw [hjv]) hno
 refine AA' (con := [(fRHd, cRHd P off w.length n), (fRLs, cRLs P M off n (ls.length + 1)), (fFst, cFi l0 m t true)] ++ [(fFnd, cFnd L clB (Int.ofNat j))]) (hints := AB' (hR1 false false false false ++ hR2 false false l0 ++ hR3 true v false false false)) (lc := [(fRNx, 14, A4' fRNx 14, lQr P M m t L off w.length n (ls.length + 1)), (fRNx, 25, A4' fRNx 25, lNx P L m t v off w.length n)]) kR rfl (fun F hF => A5' (CW' F (hwt hw hoff hl) (by omega) hl hz) (A5' (E5' F hw' (by rw [hnl]; omega) (by omega) hnl hM' hk (by omega)) (A5' (HN' F hf) (AP' (E7' F hfd))))) (fun F hF => D3' (AW' (AE'.nothing F) N4' (fun _ _ => by
  simp only [RT.pick]
  exact Q8' hMl hb hsz m t off w.length n hh hne) fun _ => by
  simp only [RT.pick]
  exact AQ' rfl rfl (A0' rfl (A0' rfl (A0' rfl (A0' t0 (A0' rfl (A0' rfl (A0' t0 A3'))))))) (A0' ⟨t0, t0, t0, t0, t0⟩ (A0' ⟨t0, t0, t0, t0, t0⟩ (A0' ⟨t0, t0, t0, t0, t0⟩ (A0' (DB' _ _) (A0' (AM' _ _) A3'))))) (A0' rfl (A0' rfl (A0' rfl (A0' t0 (A0' rfl A3'))))) (A0' ⟨t0, t0, t0, t0, t0⟩ (A0' ⟨t0, t0, t0, t0, t0⟩ (A0' ⟨t0, t0, rfl, t0, t0⟩ (A0' (AM' _ _) (A0' (BN' _ _) A3')))))) (BE' (AW' (AE'.nothing F) M8' (fun _ _ => by
  simp only [RT.pick]
  exact n_no P L m t v off w.length n hvs hd) fun _ => by
  simp only [RT.pick]
  exact AQ' rfl rfl (A0' rfl (A0' rfl (A0' rfl (A0' t0 (A0' rfl (A0' t0 (A0' t0 (A0' t0 A3')))))))) (A0' ⟨t0, t0, t0, t0, t0⟩ (A0' ⟨t0, t0, t0, t0, t0⟩ (A0' ⟨t0, t0, rfl, t0, t0⟩ (A0' (AM' _ _) (A0' (BN' _ _) A3'))))) (A0' rfl (A0' t0 (A0' t0 (A0' t0 A3')))) (A0' ⟨t0, t0, t0, t0, t0⟩ (A0' (AM' _ _) A3'))))) fun F => ?_
 refine cv (oR8_eq P M l0 m t off w.length n (ls.length + 1) L v j F) ⟨⟨?_, (AF' (vs' := [nrV 400]) (H' := [(0, rB1 P)]) [] rfl rfl (v0) ⟨⟨_, rfl, AJ' (by simp only [A2']) rfl⟩, t0⟩).fits rfl⟩⟩
 simp only [Cnd.holds, A2', e1, e2, g1, g2, g4, sv, AV.strOf, g5, g6, g7, Nat.blt_eq, true_and, and_true]
 and_intros
 all_goals first
  | exact hvw
  | exact A1' (decide_eq_true (by simp only [Z0, Z1, Z2]; omega))
  | exact A1' (decide_eq_false (by simp only [Z0, Z1, Z2]; omega))
  | exact A1' (qe_t (by omega))
  | exact A1' (qe_f (by omega))
  | exact A1' (IH' (by omega))
  | (simp only [A2']; exact o0)
  | decide | (with_reducible first | exact t0 | exact r0 | exact A6' _ | assumption) | exact r0 | ((repeat (first | exact VW.nil | refine c1 ?_ | refine c2 ?_ | refine c3 ?_)); done)
variable (hd : (v.data.toList.take 10).all qD = true) {z : Nat} (hzn : WS' 0 (v.data.toList.take 10) z)
include hd hzn
theorem rn9a (hv1 : v.size < 1) : Tri Tryz.prog default fRNx [sO 0 off w.length] [(0, rB1 P)] (nrV 400) [(0, rB1 P)] := by
 have hnl : (w.take n).length = n := by rw [List.length_take]; omega
 have hw' : (P.drop off).take (w.take n).length = w.take n := by rw [hw, hnl]
 have hM' : (lnsR (w.take n) (w.take n).length 0 0).map tB = M := by rw [E0']; exact hM
 have e1 : n.ble w.length = true := by rw [Nat.ble_eq]; exact hn
 have e2 : w.length.ble w.length = true := by rw [Nat.ble_eq]; exact n0
 have hvw : VW [AV.slice 0 off n 1 (Cp.lo w.length)] [AV.slice 0 off n 1 (Cp.lo n)] := VW.cons (CY' hn) VW.nil
 have hk : M.length = (ls.length + 1) + 1 := by rw [hMl]; simp
 have g1 : ∀ d, (rowV encS M).getD 0 d = sv l0 := fun d => by rw [hMl]; rfl
 have g2 : Nat.blt 0 (rowV encS M).length = true := by rw [C5', hk, Nat.blt_eq]; omega
 have g4 : Nat.blt 0 (ls.length + 1) = true := by rw [Nat.blt_eq]; omega
 have hLl : L.length ≤ 10000 := by
  have := BI' hh
  rw [List.length_nil] at this
  omega
 have g5 := KK' L j hj hjv
 have g6 : 0 + j * 2 + 1 < (rowV encP L).length := by rw [DC']; omega
 have g7 : j.blt L.length = true := by rw [Nat.blt_eq]; exact hj
 have hfd := E8' L clB (by omega) j hj (by rw [hjv]) hno
 have hny := UV' P L m t v off w.length n hvs hd
 rw [show numR 0 (v.data.toList.take 10) = z from hzn] at hny
 refine AA' (con := [(fRHd, cRHd P off w.length n), (fRLs, cRLs P M off n (ls.length + 1)), (fFst, cFi l0 m t true)] ++ [(fFnd, cFnd L clB (Int.ofNat j))]) (hints := AB' (hR1 false false false false ++ hR2 false false l0 ++ hR3 true v true false true)) (lc := [(fRNx, 14, A4' fRNx 14, lQr P M m t L off w.length n (ls.length + 1)), (fRNx, 25, A4' fRNx 25, lN P L m t v off w.length n z)]) kR rfl (fun F hF => A5' (CW' F (hwt hw hoff hl) (by omega) hl hz) (A5' (E5' F hw' (by rw [hnl]; omega) (by omega) hnl hM' hk (by omega)) (A5' (HN' F hf) (AP' (E7' F hfd))))) (fun F hF => D3' (AW' (AE'.nothing F) N4' (fun _ _ => by
  simp only [RT.pick]
  exact Q8' hMl hb hsz m t off w.length n hh hne) fun _ => by
  simp only [RT.pick]
  exact AQ' rfl rfl (A0' rfl (A0' rfl (A0' rfl (A0' t0 (A0' rfl (A0' rfl (A0' t0 A3'))))))) (A0' ⟨t0, t0, t0, t0, t0⟩ (A0' ⟨t0, t0, t0, t0, t0⟩ (A0' ⟨t0, t0, t0, t0, t0⟩ (A0' (DB' _ _) (A0' (AM' _ _) A3'))))) (A0' rfl (A0' rfl (A0' rfl (A0' t0 (A0' rfl A3'))))) (A0' ⟨t0, t0, t0, t0, t0⟩ (A0' ⟨t0, t0, t0, t0, t0⟩ (A0' ⟨t0, t0, rfl, t0, t0⟩ (A0' (AM' _ _) (A0' (BN' _ _) A3')))))) (BE' (AW' (AE'.nothing F) M8' (fun _ _ => by
  simp only [RT.pick]
  exact hny) fun _ => by
  simp only [RT.pick]
  exact AQ' rfl rfl (A0' rfl (A0' rfl (A0' rfl (A0' t0 (A0' rfl (A0' t0 (A0' t0 (A0' t0 A3')))))))) (A0' ⟨t0, t0, t0, t0, t0⟩ (A0' ⟨t0, t0, t0, t0, t0⟩ (A0' ⟨t0, t0, rfl, t0, t0⟩ (A0' (AM' _ _) (A0' (BN' _ _) A3'))))) (A0' rfl (A0' rfl (A0' rfl (A0' t0 (A0' rfl (A0' t0 (A0' t0 A3'))))))) (A0' ⟨t0, t0, t0, t0, t0⟩ (A0' ⟨t0, t0, t0, t0, t0⟩ (A0' ⟨t0, t0, rfl, t0, t0⟩ (A0' (AM' _ _) (A0' (BN' _ _) A3')))))))) fun F => ?_
 refine cv (dJ' P M l0 m t off w.length n (ls.length + 1) L v j z F) ⟨⟨?_, (AF' (vs' := [nrV 400]) (H' := [(0, rB1 P)]) [] rfl rfl (v0) ⟨⟨_, rfl, AJ' (by simp only [A2']) rfl⟩, t0⟩).fits rfl⟩⟩
 simp only [Cnd.holds, A2', e1, e2, g1, g2, g4, sv, AV.strOf, g5, g6, g7, Nat.blt_eq, true_and, and_true]
 and_intros
 all_goals first
  | exact hvw
  | exact A1' (decide_eq_true (by simp only [Z0, Z1, Z2]; omega))
  | exact A1' (decide_eq_false (by simp only [Z0, Z1, Z2]; omega))
  | exact A1' (qe_t (by omega))
  | exact A1' (qe_f (by omega))
  | exact A1' (IH' (by omega))
  | (simp only [A2']; exact o0)
  | decide | (with_reducible first | exact t0 | exact r0 | exact A6' _ | assumption) | exact r0 | ((repeat (first | exact VW.nil | refine c1 ?_ | refine c2 ?_ | refine c3 ?_)); done)
theorem rn9b (hv1 : ¬ v.size < 1) (hv9 : 9 < v.size) : Tri Tryz.prog default fRNx [sO 0 off w.length] [(0, rB1 P)] (nrV 400) [(0, rB1 P)] := by
 have hnl : (w.take n).length = n := by rw [List.length_take]; omega
 have hw' : (P.drop off).take (w.take n).length = w.take n := by rw [hw, hnl]
 have hM' : (lnsR (w.take n) (w.take n).length 0 0).map tB = M := by rw [E0']; exact hM
 have e1 : n.ble w.length = true := by rw [Nat.ble_eq]; exact hn
 have e2 : w.length.ble w.length = true := by rw [Nat.ble_eq]; exact n0
 have hvw : VW [AV.slice 0 off n 1 (Cp.lo w.length)] [AV.slice 0 off n 1 (Cp.lo n)] := VW.cons (CY' hn) VW.nil
 have hk : M.length = (ls.length + 1) + 1 := by rw [hMl]; simp
 have g1 : ∀ d, (rowV encS M).getD 0 d = sv l0 := fun d => by rw [hMl]; rfl
 have g2 : Nat.blt 0 (rowV encS M).length = true := by rw [C5', hk, Nat.blt_eq]; omega
 have g4 : Nat.blt 0 (ls.length + 1) = true := by rw [Nat.blt_eq]; omega
 have hLl : L.length ≤ 10000 := by
  have := BI' hh
  rw [List.length_nil] at this
  omega
 have g5 := KK' L j hj hjv
 have g6 : 0 + j * 2 + 1 < (rowV encP L).length := by rw [DC']; omega
 have g7 : j.blt L.length = true := by rw [Nat.blt_eq]; exact hj
 have hfd := E8' L clB (by omega) j hj (by rw [hjv]) hno
 have hny := UV' P L m t v off w.length n hvs hd
 rw [show numR 0 (v.data.toList.take 10) = z from hzn] at hny
 refine AA' (con := [(fRHd, cRHd P off w.length n), (fRLs, cRLs P M off n (ls.length + 1)), (fFst, cFi l0 m t true)] ++ [(fFnd, cFnd L clB (Int.ofNat j))]) (hints := AB' (hR1 false false false false ++ hR2 false false l0 ++ hR3 true v false true true)) (lc := [(fRNx, 14, A4' fRNx 14, lQr P M m t L off w.length n (ls.length + 1)), (fRNx, 25, A4' fRNx 25, lN P L m t v off w.length n z)]) kR rfl (fun F hF => A5' (CW' F (hwt hw hoff hl) (by omega) hl hz) (A5' (E5' F hw' (by rw [hnl]; omega) (by omega) hnl hM' hk (by omega)) (A5' (HN' F hf) (AP' (E7' F hfd))))) (fun F hF => D3' (AW' (AE'.nothing F) N4' (fun _ _ => by
  simp only [RT.pick]
  exact Q8' hMl hb hsz m t off w.length n hh hne) fun _ => by
  simp only [RT.pick]
  exact AQ' rfl rfl (A0' rfl (A0' rfl (A0' rfl (A0' t0 (A0' rfl (A0' rfl (A0' t0 A3'))))))) (A0' ⟨t0, t0, t0, t0, t0⟩ (A0' ⟨t0, t0, t0, t0, t0⟩ (A0' ⟨t0, t0, t0, t0, t0⟩ (A0' (DB' _ _) (A0' (AM' _ _) A3'))))) (A0' rfl (A0' rfl (A0' rfl (A0' t0 (A0' rfl A3'))))) (A0' ⟨t0, t0, t0, t0, t0⟩ (A0' ⟨t0, t0, t0, t0, t0⟩ (A0' ⟨t0, t0, rfl, t0, t0⟩ (A0' (AM' _ _) (A0' (BN' _ _) A3')))))) (BE' (AW' (AE'.nothing F) M8' (fun _ _ => by
  simp only [RT.pick]
  exact hny) fun _ => by
  simp only [RT.pick]
  exact AQ' rfl rfl (A0' rfl (A0' rfl (A0' rfl (A0' t0 (A0' rfl (A0' t0 (A0' t0 (A0' t0 A3')))))))) (A0' ⟨t0, t0, t0, t0, t0⟩ (A0' ⟨t0, t0, t0, t0, t0⟩ (A0' ⟨t0, t0, rfl, t0, t0⟩ (A0' (AM' _ _) (A0' (BN' _ _) A3'))))) (A0' rfl (A0' rfl (A0' rfl (A0' t0 (A0' rfl (A0' t0 (A0' t0 A3'))))))) (A0' ⟨t0, t0, t0, t0, t0⟩ (A0' ⟨t0, t0, t0, t0, t0⟩ (A0' ⟨t0, t0, rfl, t0, t0⟩ (A0' (AM' _ _) (A0' (BN' _ _) A3')))))))) fun F => ?_
 refine cv (dI' P M l0 m t off w.length n (ls.length + 1) L v j z F) ⟨⟨?_, (AF' (vs' := [nrV 400]) (H' := [(0, rB1 P)]) [] rfl rfl (v0) ⟨⟨_, rfl, AJ' (by simp only [A2']) rfl⟩, t0⟩).fits rfl⟩⟩
 simp only [Cnd.holds, A2', e1, e2, g1, g2, g4, sv, AV.strOf, g5, g6, g7, Nat.blt_eq, true_and, and_true]
 and_intros
 all_goals first
  | exact hvw
  | exact A1' (decide_eq_true (by simp only [Z0, Z1, Z2]; omega))
  | exact A1' (decide_eq_false (by simp only [Z0, Z1, Z2]; omega))
  | exact A1' (qe_t (by omega))
  | exact A1' (qe_f (by omega))
  | exact A1' (IH' (by omega))
  | (simp only [A2']; exact o0)
  | decide | (with_reducible first | exact t0 | exact r0 | exact A6' _ | assumption) | exact r0 | ((repeat (first | exact VW.nil | refine c1 ?_ | refine c2 ?_ | refine c3 ?_)); done)
theorem rn10 (hv1 : ¬ v.size < 1) (hv9 : ¬ 9 < v.size) (hbig : 65536 < z) : Tri Tryz.prog default fRNx [sO 0 off w.length] [(0, rB1 P)] (nrV 413) [(0, rB1 P)] := by
 have hnl : (w.take n).length = n := by rw [List.length_take]; omega
 have hw' : (P.drop off).take (w.take n).length = w.take n := by rw [hw, hnl]
 have hM' : (lnsR (w.take n) (w.take n).length 0 0).map tB = M := by rw [E0']; exact hM
 have e1 : n.ble w.length = true := by rw [Nat.ble_eq]; exact hn
 have e2 : w.length.ble w.length = true := by rw [Nat.ble_eq]; exact n0
 have hvw : VW [AV.slice 0 off n 1 (Cp.lo w.length)] [AV.slice 0 off n 1 (Cp.lo n)] := VW.cons (CY' hn) VW.nil
 have hk : M.length = (ls.length + 1) + 1 := by rw [hMl]; simp
 have g1 : ∀ d, (rowV encS M).getD 0 d = sv l0 := fun d => by rw [hMl]; rfl
 have g2 : Nat.blt 0 (rowV encS M).length = true := by rw [C5', hk, Nat.blt_eq]; omega
 have g4 : Nat.blt 0 (ls.length + 1) = true := by rw [Nat.blt_eq]; omega
 have hLl : L.length ≤ 10000 := by
  have := BI' hh
  rw [List.length_nil] at this
  omega
 have g5 := KK' L j hj hjv
 have g6 : 0 + j * 2 + 1 < (rowV encP L).length := by rw [DC']; omega
 have g7 : j.blt L.length = true := by rw [Nat.blt_eq]; exact hj
 have hfd := E8' L clB (by omega) j hj (by rw [hjv]) hno
 have hny := UV' P L m t v off w.length n hvs hd
 rw [show numR 0 (v.data.toList.take 10) = z from hzn] at hny
 refine AA' (con := [(fRHd, cRHd P off w.length n), (fRLs, cRLs P M off n (ls.length + 1)), (fFst, cFi l0 m t true)] ++ [(fFnd, cFnd L clB (Int.ofNat j))]) (hints := AB' (hR1 false false false false ++ hR2 false false l0 ++ (hR3 true v false false false ++ hR4 n z true false))) (lc := [(fRNx, 14, A4' fRNx 14, lQr P M m t L off w.length n (ls.length + 1)), (fRNx, 25, A4' fRNx 25, lN P L m t v off w.length n z)]) kR rfl (fun F hF => A5' (CW' F (hwt hw hoff hl) (by omega) hl hz) (A5' (E5' F hw' (by rw [hnl]; omega) (by omega) hnl hM' hk (by omega)) (A5' (HN' F hf) (AP' (E7' F hfd))))) (fun F hF => D3' (AW' (AE'.nothing F) N4' (fun _ _ => by
  simp only [RT.pick]
  exact Q8' hMl hb hsz m t off w.length n hh hne) fun _ => by
  simp only [RT.pick]
  exact AQ' rfl rfl (A0' rfl (A0' rfl (A0' rfl (A0' t0 (A0' rfl (A0' rfl (A0' t0 A3'))))))) (A0' ⟨t0, t0, t0, t0, t0⟩ (A0' ⟨t0, t0, t0, t0, t0⟩ (A0' ⟨t0, t0, t0, t0, t0⟩ (A0' (DB' _ _) (A0' (AM' _ _) A3'))))) (A0' rfl (A0' rfl (A0' rfl (A0' t0 (A0' rfl A3'))))) (A0' ⟨t0, t0, t0, t0, t0⟩ (A0' ⟨t0, t0, t0, t0, t0⟩ (A0' ⟨t0, t0, rfl, t0, t0⟩ (A0' (AM' _ _) (A0' (BN' _ _) A3')))))) (BE' (AW' (AE'.nothing F) M8' (fun _ _ => by
  simp only [RT.pick]
  exact hny) fun _ => by
  simp only [RT.pick]
  exact AQ' rfl rfl (A0' rfl (A0' rfl (A0' rfl (A0' t0 (A0' rfl (A0' t0 (A0' t0 (A0' t0 A3')))))))) (A0' ⟨t0, t0, t0, t0, t0⟩ (A0' ⟨t0, t0, t0, t0, t0⟩ (A0' ⟨t0, t0, rfl, t0, t0⟩ (A0' (AM' _ _) (A0' (BN' _ _) A3'))))) (A0' rfl (A0' rfl (A0' rfl (A0' t0 (A0' rfl (A0' t0 (A0' t0 A3'))))))) (A0' ⟨t0, t0, t0, t0, t0⟩ (A0' ⟨t0, t0, t0, t0, t0⟩ (A0' ⟨t0, t0, rfl, t0, t0⟩ (A0' (AM' _ _) (A0' (BN' _ _) A3')))))))) fun F => ?_
 refine cv (dO' P M l0 m t off w.length n (ls.length + 1) L v j z F) ⟨⟨?_, (AF' (vs' := [nrV 413]) (H' := [(0, rB1 P)]) [] rfl rfl (v0) ⟨⟨_, rfl, AJ' (by simp only [A2']) rfl⟩, t0⟩).fits rfl⟩⟩
 simp only [Cnd.holds, A2', e1, e2, g1, g2, g4, sv, AV.strOf, g5, g6, g7, Nat.blt_eq, true_and, and_true]
 and_intros
 all_goals first
  | exact hvw
  | exact A1' (decide_eq_true (by simp only [Z0, Z1, Z2]; omega))
  | exact A1' (decide_eq_false (by simp only [Z0, Z1, Z2]; omega))
  | exact A1' (qe_t (by omega))
  | exact A1' (qe_f (by omega))
  | exact A1' (IH' (by omega))
  | (simp only [A2']; exact o0)
  | decide | (with_reducible first | exact t0 | exact r0 | exact A6' _ | assumption) | exact r0 | ((repeat (first | exact VW.nil | refine c1 ?_ | refine c2 ?_ | refine c3 ?_)); done)
theorem rn11 (hv1 : ¬ v.size < 1) (hv9 : ¬ 9 < v.size) (hbig : ¬ 65536 < z) (hsh : w.length - n < z) : Tri Tryz.prog default fRNx [sO 0 off w.length] [(0, rB1 P)] (nrV 0) [(0, rB1 P)] := by
 have hnl : (w.take n).length = n := by rw [List.length_take]; omega
 have hw' : (P.drop off).take (w.take n).length = w.take n := by rw [hw, hnl]
 have hM' : (lnsR (w.take n) (w.take n).length 0 0).map tB = M := by rw [E0']; exact hM
 have e1 : n.ble w.length = true := by rw [Nat.ble_eq]; exact hn
 have e2 : w.length.ble w.length = true := by rw [Nat.ble_eq]; exact n0
 have hvw : VW [AV.slice 0 off n 1 (Cp.lo w.length)] [AV.slice 0 off n 1 (Cp.lo n)] := VW.cons (CY' hn) VW.nil
 have hk : M.length = (ls.length + 1) + 1 := by rw [hMl]; simp
 have g1 : ∀ d, (rowV encS M).getD 0 d = sv l0 := fun d => by rw [hMl]; rfl
 have g2 : Nat.blt 0 (rowV encS M).length = true := by rw [C5', hk, Nat.blt_eq]; omega
 have g4 : Nat.blt 0 (ls.length + 1) = true := by rw [Nat.blt_eq]; omega
 have hLl : L.length ≤ 10000 := by
  have := BI' hh
  rw [List.length_nil] at this
  omega
 have g5 := KK' L j hj hjv
 have g6 : 0 + j * 2 + 1 < (rowV encP L).length := by rw [DC']; omega
 have g7 : j.blt L.length = true := by rw [Nat.blt_eq]; exact hj
 have hfd := E8' L clB (by omega) j hj (by rw [hjv]) hno
 have hny := UV' P L m t v off w.length n hvs hd
 rw [show numR 0 (v.data.toList.take 10) = z from hzn] at hny
 have hws := CP' hn (by omega)
 refine AA' (con := [(fRHd, cRHd P off w.length n), (fRLs, cRLs P M off n (ls.length + 1)), (fFst, cFi l0 m t true)] ++ [(fFnd, cFnd L clB (Int.ofNat j))]) (hints := AB' (hR1 false false false false ++ hR2 false false l0 ++ (hR3 true v false false false ++ hR4 n z false true))) (lc := [(fRNx, 14, A4' fRNx 14, lQr P M m t L off w.length n (ls.length + 1)), (fRNx, 25, A4' fRNx 25, lN P L m t v off w.length n z)]) kR rfl (fun F hF => A5' (CW' F (hwt hw hoff hl) (by omega) hl hz) (A5' (E5' F hw' (by rw [hnl]; omega) (by omega) hnl hM' hk (by omega)) (A5' (HN' F hf) (AP' (E7' F hfd))))) (fun F hF => D3' (AW' (AE'.nothing F) N4' (fun _ _ => by
  simp only [RT.pick]
  exact Q8' hMl hb hsz m t off w.length n hh hne) fun _ => by
  simp only [RT.pick]
  exact AQ' rfl rfl (A0' rfl (A0' rfl (A0' rfl (A0' t0 (A0' rfl (A0' rfl (A0' t0 A3'))))))) (A0' ⟨t0, t0, t0, t0, t0⟩ (A0' ⟨t0, t0, t0, t0, t0⟩ (A0' ⟨t0, t0, t0, t0, t0⟩ (A0' (DB' _ _) (A0' (AM' _ _) A3'))))) (A0' rfl (A0' rfl (A0' rfl (A0' t0 (A0' rfl A3'))))) (A0' ⟨t0, t0, t0, t0, t0⟩ (A0' ⟨t0, t0, t0, t0, t0⟩ (A0' ⟨t0, t0, rfl, t0, t0⟩ (A0' (AM' _ _) (A0' (BN' _ _) A3')))))) (BE' (AW' (AE'.nothing F) M8' (fun _ _ => by
  simp only [RT.pick]
  exact hny) fun _ => by
  simp only [RT.pick]
  exact AQ' rfl rfl (A0' rfl (A0' rfl (A0' rfl (A0' t0 (A0' rfl (A0' t0 (A0' t0 (A0' t0 A3')))))))) (A0' ⟨t0, t0, t0, t0, t0⟩ (A0' ⟨t0, t0, t0, t0, t0⟩ (A0' ⟨t0, t0, rfl, t0, t0⟩ (A0' (AM' _ _) (A0' (BN' _ _) A3'))))) (A0' rfl (A0' rfl (A0' rfl (A0' t0 (A0' rfl (A0' t0 (A0' t0 A3'))))))) (A0' ⟨t0, t0, t0, t0, t0⟩ (A0' ⟨t0, t0, t0, t0, t0⟩ (A0' ⟨t0, t0, rfl, t0, t0⟩ (A0' (AM' _ _) (A0' (BN' _ _) A3')))))))) fun F => ?_
 refine cv (dN' P M l0 m t off w.length n (ls.length + 1) L v j z F) ⟨⟨?_, (AF' (vs' := [nrV 0]) (H' := [(0, rB1 P)]) [] rfl rfl (v0) ⟨⟨_, rfl, AJ' (by simp only [A2']) rfl⟩, t0⟩).fits rfl⟩⟩
 simp only [Cnd.holds, A2', e1, e2, g1, g2, g4, sv, AV.strOf, g5, g6, g7, hws, Nat.blt_eq, true_and, and_true]
 and_intros
 all_goals first
  | exact hvw
  | exact A1' (decide_eq_true (by simp only [Z0, Z1, Z2]; omega))
  | exact A1' (decide_eq_false (by simp only [Z0, Z1, Z2]; omega))
  | exact A1' (qe_t (by omega))
  | exact A1' (qe_f (by omega))
  | exact A1' (IH' (by omega))
  | (simp only [A2']; exact o0)
  | decide | (with_reducible first | exact t0 | exact r0 | exact A6' _ | assumption) | exact r0 | ((repeat (first | exact VW.nil | refine c1 ?_ | refine c2 ?_ | refine c3 ?_)); done)
theorem rn12 (hv1 : ¬ v.size < 1) (hv9 : ¬ 9 < v.size) (hbig : ¬ 65536 < z) (hsh : ¬ w.length - n < z) : Tri Tryz.prog default fRNx [sO 0 off w.length] [(0, rB1 P)] (.tuple [rqV m t (sP 1000 L.length) (sB 1001 z), bv true, iv (Int.ofNat 0), iv (Int.ofNat (n + z))]) [(0, rB1 P), (1000, rP L), (1001, rB ((w.drop n).take z))] := by
 have hnl : (w.take n).length = n := by rw [List.length_take]; omega
 have hw' : (P.drop off).take (w.take n).length = w.take n := by rw [hw, hnl]
 have hM' : (lnsR (w.take n) (w.take n).length 0 0).map tB = M := by rw [E0']; exact hM
 have e1 : n.ble w.length = true := by rw [Nat.ble_eq]; exact hn
 have e2 : w.length.ble w.length = true := by rw [Nat.ble_eq]; exact n0
 have hvw : VW [AV.slice 0 off n 1 (Cp.lo w.length)] [AV.slice 0 off n 1 (Cp.lo n)] := VW.cons (CY' hn) VW.nil
 have hk : M.length = (ls.length + 1) + 1 := by rw [hMl]; simp
 have g1 : ∀ d, (rowV encS M).getD 0 d = sv l0 := fun d => by rw [hMl]; rfl
 have g2 : Nat.blt 0 (rowV encS M).length = true := by rw [C5', hk, Nat.blt_eq]; omega
 have g4 : Nat.blt 0 (ls.length + 1) = true := by rw [Nat.blt_eq]; omega
 have hLl : L.length ≤ 10000 := by
  have := BI' hh
  rw [List.length_nil] at this
  omega
 have g5 := KK' L j hj hjv
 have g6 : 0 + j * 2 + 1 < (rowV encP L).length := by rw [DC']; omega
 have g7 : j.blt L.length = true := by rw [Nat.blt_eq]; exact hj
 have hfd := E8' L clB (by omega) j hj (by rw [hjv]) hno
 have hny := UV' P L m t v off w.length n hvs hd
 rw [show numR 0 (v.data.toList.take 10) = z from hzn] at hny
 have hwa := DL' (a := n) (b := z) (by omega)
 have hws := CP' hn (by omega)
 have eZ : n + z - n = z := by omega
 have e4 : n.ble (n + z) = true := by rw [Nat.ble_eq]; omega
 have e5 : (n + z).ble w.length = true := by rw [Nat.ble_eq]; omega
 have hB : (P.drop (off + n * 1)).take z = (w.drop n).take z := by rw [← hw, List.drop_drop, Nat.mul_one]
 have hvc : VW [AV.slice 0 (off + n * 1) z 1 (Cp.lo (w.length - n))] [AV.slice 0 (off + n * 1) z 1 (Cp.lo z)] := VW.cons (CY' (show z ≤ w.length - n by omega)) VW.nil
 refine AA' (con := [(fRHd, cRHd P off w.length n), (fRLs, cRLs P M off n (ls.length + 1)), (fFst, cFi l0 m t true)] ++ [(fFnd, cFnd L clB (Int.ofNat j)), (fCpy, cCp P ((w.drop n).take z) (off + n * 1) z)]) (hints := AB' (hR1 false false false false ++ hR2 false false l0 ++ (hR3 true v false false false ++ hR4 n z false false))) (lc := [(fRNx, 14, A4' fRNx 14, lQr P M m t L off w.length n (ls.length + 1)), (fRNx, 25, A4' fRNx 25, lN P L m t v off w.length n z)]) kR rfl (fun F hF => A5' (CW' F (hwt hw hoff hl) (by omega) hl hz) (A5' (E5' F hw' (by rw [hnl]; omega) (by omega) hnl hM' hk (by omega)) (A5' (HN' F hf) (A5' (E7' F hfd) (AP' (W0' F (by omega) (by omega) hB)))))) (fun F hF => D3' (AW' (AE'.nothing F) N4' (fun _ _ => by
  simp only [RT.pick]
  exact Q8' hMl hb hsz m t off w.length n hh hne) fun _ => by
  simp only [RT.pick]
  exact AQ' rfl rfl (A0' rfl (A0' rfl (A0' rfl (A0' t0 (A0' rfl (A0' rfl (A0' t0 A3'))))))) (A0' ⟨t0, t0, t0, t0, t0⟩ (A0' ⟨t0, t0, t0, t0, t0⟩ (A0' ⟨t0, t0, t0, t0, t0⟩ (A0' (DB' _ _) (A0' (AM' _ _) A3'))))) (A0' rfl (A0' rfl (A0' rfl (A0' t0 (A0' rfl A3'))))) (A0' ⟨t0, t0, t0, t0, t0⟩ (A0' ⟨t0, t0, t0, t0, t0⟩ (A0' ⟨t0, t0, rfl, t0, t0⟩ (A0' (AM' _ _) (A0' (BN' _ _) A3')))))) (BE' (AW' (AE'.nothing F) M8' (fun _ _ => by
  simp only [RT.pick]
  exact hny) fun _ => by
  simp only [RT.pick]
  exact AQ' rfl rfl (A0' rfl (A0' rfl (A0' rfl (A0' t0 (A0' rfl (A0' t0 (A0' t0 (A0' t0 A3')))))))) (A0' ⟨t0, t0, t0, t0, t0⟩ (A0' ⟨t0, t0, t0, t0, t0⟩ (A0' ⟨t0, t0, rfl, t0, t0⟩ (A0' (AM' _ _) (A0' (BN' _ _) A3'))))) (A0' rfl (A0' rfl (A0' rfl (A0' t0 (A0' rfl (A0' t0 (A0' t0 A3'))))))) (A0' ⟨t0, t0, t0, t0, t0⟩ (A0' ⟨t0, t0, t0, t0, t0⟩ (A0' ⟨t0, t0, rfl, t0, t0⟩ (A0' (AM' _ _) (A0' (BN' _ _) A3')))))))) fun F => ?_
 refine cv (dM' P M l0 m t off w.length n (ls.length + 1) L v ((w.drop n).take z) j z F) ⟨⟨?_, (AF' (vs' := [.tuple [rqV m t (sP 1000 L.length) (sB 1001 z), bv true, iv (Int.ofNat 0), iv (Int.ofNat (n + z))]]) (H' := [(0, rB1 P), (1000, rP L), (1001, rB ((w.drop n).take z))]) [(1000, 1105), (1001, 1106)] rfl rfl (v0) ⟨⟨_, rfl, AJ' (by simp only [A2']) rfl⟩, ⟨_, rfl, BQ' (by simp only [A2']) rfl⟩, ⟨_, rfl, BW' (by first | rfl | simp only [A2']) rfl⟩, t0⟩).fits rfl⟩⟩
 simp only [Cnd.holds, A2', e1, e2, g1, g2, g4, sv, AV.strOf, g5, g6, g7, hws, eZ, e4, e5, Nat.blt_eq, true_and, and_true]
 and_intros
 all_goals first
  | exact hvw
  | exact hvc
  | exact AG' hwa
  | exact A1' (decide_eq_true (by simp only [Z0, Z1, Z2]; omega))
  | exact A1' (decide_eq_false (by simp only [Z0, Z1, Z2]; omega))
  | exact A1' (qe_t (by omega))
  | exact A1' (qe_f (by omega))
  | exact A1' (IH' (by omega))
  | (simp only [A2']; exact o0)
  | decide | (with_reducible first | exact t0 | exact r0 | exact A6' _ | assumption) | exact r0 | ((repeat (first | exact VW.nil | refine c1 ?_ | refine c2 ?_ | refine c3 ?_)); done)
end
theorem TT' (l cs : List UInt8) : (Lib.trimS l cs).length ≤ l.length := by
 unfold Lib.trimS Lib.trimLeftS Lib.trimRightS
 have h1 := (List.dropWhile_sublist (l := (l.reverse.dropWhile (cs.contains ·)).reverse) (cs.contains ·)).length_le
 have h2 := (List.dropWhile_sublist (l := l.reverse) (cs.contains ·)).length_le
 rw [List.length_reverse] at h1 h2
 omega
theorem ZC' {L : Hds} {s : ByteArray} {p : ByteArray × ByteArray} (h : hdrB L s = some p) : p.2.size ≤ s.size := by
 unfold hdrB hdrW at h
 split at h
 ·cases h
 split at h
 ·cases h
 split at h
 ·cases h
 split at h
 ·cases h
 split at h
 ·cases h
 split at h
 ·cases h
 ·cases h
  refine Nat.le_trans ?_ (L1' s coB)
  show (BY' (cut2 s coB) wsB).size ≤ _
  unfold BY'
  rw [BC']
  exact TT' _ _
theorem J3' : ∀ {l : List ByteArray} {L M : Hds}, C7' L l = some M → (∀ x ∈ l, x.size ≤ 8192) → (∀ p ∈ L, p.2.size ≤ 8192) → ∀ p ∈ M, p.2.size ≤ 8192
 | [], L, M, h, _, hL => by cases h; exact hL
 | s :: r, L, M, h, hl, hL => by
  unfold C7' at h
  split at h
  ·cases h
  ·rename_i p hp
   refine J3' h (fun x hx => hl x (List.mem_cons_of_mem _ hx)) fun q hq => ?_
   rcases List.mem_append.1 hq with hq | hq
   ·exact hL q hq
   ·rw [List.mem_singleton.1 hq]
    exact Nat.le_trans (ZC' hp) (hl s List.mem_cons_self)
structure Head (w : List UInt8) (n : Nat) where
 l0 : ByteArray
 ls : List ByteArray
 M : List ByteArray
 hl : GO' (w.take n) = l0 :: ls
 hM : (lnsA [] (w.take n)).map tB = M
 hMl : M = (l0 :: ls) ++ [nil0]
 hb : ls.length ≤ 10000
 hsz : ∀ x ∈ M, x.size ≤ 8192
theorem VA' {w : List UInt8} {n : Nat} (h : hdN w = some n) (h4 : 4 ≤ n) (h8 : n ≤ 8192) : Nonempty (Head w n) := by
 rcases KO' h with ⟨e, _⟩ | ⟨_, S, h1, h2⟩
 ·omega
 obtain ⟨l0, ls, hM⟩ := G2' (w.take n)
 have hS : S.map tB = l0 :: ls := by rw [← h2, hM]
 have hs2' : (sufB (tB (w.take n)) crB2).size ≤ 8192 := Nat.le_trans (CA' _ _) (by rw [BC', List.length_take]; omega)
 have hall : ∀ x ∈ l0 :: ls, x.size ≤ 8192 := fun x hx => Nat.le_trans (BP' (s := sufB (tB (w.take n)) crB2) (t := crB) (by rw [← hM] at hx; exact hx)) hs2'
 have hln : ls.length ≤ 10000 := by
  have := CQ' (sufB (tB (w.take n)) crB2) crB (by decide)
  have e : splB (sufB (tB (w.take n)) crB2) crB = l0 :: ls := hM
  rw [e, List.length_cons] at this
  omega
 refine ⟨⟨l0, ls, _, hM, rfl, ?_, hln, ?_⟩⟩
 ·rw [h1, List.map_append, hS]; rfl
 ·rw [h1, List.map_append, hS]
  intro x hx
  rcases List.mem_append.1 hx with hx | hx
  ·exact hall x hx
  ·rw [List.mem_singleton.1 hx]
   exact Nat.zero_le _
section
variable {P w : List UInt8} {off : Nat} (hw : P.drop off = w) (hoff : off + w.length = P.length) (hl : w.length ≤ 4000000)
include hw hoff hl
theorem aA' {s : Nat} (h : DJ' hdB w = .no s) : Tri Tryz.prog default fRNx [sO 0 off w.length] [(0, rB1 P)] (nrV s) [(0, rB1 P)] := by
 unfold DJ' at h
 cases hn : hdN w with
 | none =>
  have hz : CZ' w = 0 := by unfold CZ'; rw [hn]
  rw [hn] at h
  simp only at h
  split at h
  ·rename_i h8
   cases h
   exact rn1 hw hoff hl hz h8
  ·rename_i h8
   cases h
   exact rn3 hw hoff hl hz h8
 | some n =>
  have hz : CZ' w = n := by unfold CZ'; rw [hn]
  obtain ⟨n2, nw⟩ := GR' hn
  rw [hn] at h
  simp only at h
  split at h
  ·rename_i h8
   cases h
   exact rn2 hw hoff hl hz h8
  ·rename_i h8
   have h8 : n ≤ 8192 := Nat.le_of_not_lt h8
   by_cases h4 : 4 ≤ n
   ·obtain ⟨⟨l0, ls, M, hlines, hM, hMl, hb, hsz⟩⟩ := VA' hn h4 h8
    have hsl : ∀ x ∈ ls, x.size ≤ 8192 := fun x hx => hsz x (by rw [hMl]; simp [hx])
    have hl0 : l0.size ≤ 8192 := hsz l0 (by rw [hMl]; simp)
    have hh : hdB (w.take n) = hdL (l0 :: ls) := by unfold hdB; rw [hlines]
    rw [hh] at h
    unfold hdL at h
    simp only at h
    obtain ⟨m, t, q, hf, hline⟩ := PT' l0 hl0
    cases q with
    | false =>
     rw [hline] at h
     cases h
     exact rn5 hw hoff hl hz (by omega) nw h8 hM hMl hb hsz hf
    | true =>
     have hline : lnB l0 = some (m, t) := hline
     rw [hline] at h
     simp only at h
     cases hd : C7' [] ls with
     | none =>
      rw [hd] at h
      cases h
      exact rn6 hw hoff hl hz (by omega) nw h8 hM hMl hb hsz hf hd
     | some L =>
      rw [hd] at h
      simp only at h
      rw [V0'] at h
      cases hg : getP L clB with
      | none =>
       rw [hg] at h
       simp only at h
       rw [if_neg (by decide)] at h
       simp only at h
       rw [if_neg (by omega)] at h
       cases h
      | some v =>
       have hne : L ≠ [] := fun e => by rw [e] at hg; cases hg
       obtain ⟨j, hj, hjv, hno⟩ := GS' hg
       have hvs : v.size ≤ 1000000 := by
        have hm : (clB, v) ∈ L := by
         rw [← hjv, List.getD_eq_getElem?_getD, List.getElem?_eq_getElem hj]
         exact List.getElem_mem hj
        have := J3' hd hsl (fun p hp => by cases hp) _ hm
        simp only at this
        omega
       rw [hg] at h
       simp only [lenR] at h
       cases hdd : (v.data.toList.take 10).all qD with
       | false =>
        rw [hdd, if_neg (by decide)] at h
        cases h
        exact rn8 hw hoff hl hz (by omega) nw h8 hM hMl hb hsz hf hd hne hj hjv hno hvs hdd
       | true =>
        rw [hdd, if_pos rfl] at h
        have hvl : v.data.toList.length = v.size := rfl
        rw [hvl] at h
        by_cases hv1 : v.size < 1
        ·rw [if_pos hv1] at h
         cases h
         exact rn9a hw hoff hl hz (by omega) nw h8 hM hMl hb hsz hf hd hne hj hjv hno hvs hdd rfl hv1
        ·rw [if_neg hv1] at h
         by_cases hv9 : 9 < v.size
         ·rw [if_pos hv9] at h
          cases h
          exact rn9b hw hoff hl hz (by omega) nw h8 hM hMl hb hsz hf hd hne hj hjv hno hvs hdd rfl hv1 hv9
         ·rw [if_neg hv9] at h
          have ht : v.data.toList.take 10 = v.data.toList := List.take_of_length_le (by rw [hvl]; omega)
          have hzn : WS' 0 (v.data.toList.take 10) (numR 0 v.data.toList) := by rw [ht]; rfl
          simp only at h
          split at h
          ·rename_i s1 heq
           split at heq
           ·cases heq
            cases h
            rename_i hbig
            exact rn10 hw hoff hl hz (by omega) nw h8 hM hMl hb hsz hf hd hne hj hjv hno hvs hdd hzn hv1 hv9 hbig
           ·cases heq
          ·rename_i r1 sz1 heq
           split at heq
           ·cases heq
           ·rename_i hbig
            cases heq
            split at h
            ·rename_i hsh
             cases h
             exact rn11 hw hoff hl hz (by omega) nw h8 hM hMl hb hsz hf hd hne hj hjv hno hvs hdd hzn hv1 hv9 hbig hsh
            ·cases h
   ·rcases KO' hn with ⟨e, h1, h2⟩ | ⟨h4', _⟩
    ·have hh : hdB (w.take n) = hdL [nil0, nil0] := by unfold hdB; rw [h2]
     rw [hh] at h
     unfold hdL at h
     simp only at h
     rw [K1'] at h
     cases h
     exact rn4 hw hoff hl hz (by omega) nw h8 rfl (by rw [h1]; rfl)
    ·exact absurd h4' h4
theorem PQ' {m t : ByteArray} {L : Hds} {B : List UInt8} {k : Nat} (h : DJ' hdB w = .yes (m, t, L) B k) : Tri Tryz.prog default fRNx [sO 0 off w.length] [(0, rB1 P)] (.tuple [rqV m t (hsV L) (sB 1001 B.length), bv true, iv (Int.ofNat 0), iv (Int.ofNat k)]) ((0, rB1 P) :: hsH L B) := by
 unfold DJ' at h
 cases hn : hdN w with
 | none =>
  rw [hn] at h
  simp only at h
  split at h <;> cases h
 | some n =>
  have hz : CZ' w = n := by unfold CZ'; rw [hn]
  obtain ⟨n2, nw⟩ := GR' hn
  rw [hn] at h
  simp only at h
  split at h
  ·cases h
  ·rename_i h8
   have h8 : n ≤ 8192 := Nat.le_of_not_lt h8
   by_cases h4 : 4 ≤ n
   ·obtain ⟨⟨l0, ls, M, hlines, hM, hMl, hb, hsz⟩⟩ := VA' hn h4 h8
    have hsl : ∀ x ∈ ls, x.size ≤ 8192 := fun x hx => hsz x (by rw [hMl]; simp [hx])
    have hl0 : l0.size ≤ 8192 := hsz l0 (by rw [hMl]; simp)
    have hh : hdB (w.take n) = hdL (l0 :: ls) := by unfold hdB; rw [hlines]
    rw [hh] at h
    unfold hdL at h
    simp only at h
    obtain ⟨m', t', q, hf, hline⟩ := PT' l0 hl0
    cases q with
    | false => rw [hline] at h; cases h
    | true =>
     have hline : lnB l0 = some (m', t') := hline
     rw [hline] at h
     simp only at h
     cases hd : C7' [] ls with
     | none => rw [hd] at h; cases h
     | some L' =>
      rw [hd] at h
      simp only at h
      rw [V0'] at h
      cases hg : getP L' clB with
      | none =>
       rw [hg] at h
       simp only at h
       rw [if_neg (by decide)] at h
       simp only at h
       rw [if_neg (by omega)] at h
       cases h
       rw [List.take_zero]
       cases L with
       | nil => exact rn7z hw hoff hl hz (by omega) nw h8 hM hMl hb hsz hf (OR' hd)
       | cons x r => exact rn7r hw hoff hl hz (by omega) nw h8 hM hMl hb hsz hf hd (by intro e; cases e) hg
      | some v =>
       have hne : L' ≠ [] := fun e => by rw [e] at hg; cases hg
       obtain ⟨j, hj, hjv, hno⟩ := GS' hg
       have hvs : v.size ≤ 1000000 := by
        have hm : (clB, v) ∈ L' := by
         rw [← hjv, List.getD_eq_getElem?_getD, List.getElem?_eq_getElem hj]
         exact List.getElem_mem hj
        have := J3' hd hsl (fun p hp => by cases hp) _ hm
        simp only at this
        omega
       rw [hg] at h
       simp only [lenR] at h
       cases hdd : (v.data.toList.take 10).all qD with
       | false => rw [hdd, if_neg (by decide)] at h; cases h
       | true =>
        rw [hdd, if_pos rfl] at h
        have hvl : v.data.toList.length = v.size := rfl
        rw [hvl] at h
        by_cases hv1 : v.size < 1
        ·rw [if_pos hv1] at h; cases h
        ·rw [if_neg hv1] at h
         by_cases hv9 : 9 < v.size
         ·rw [if_pos hv9] at h; cases h
         ·rw [if_neg hv9] at h
          have ht : v.data.toList.take 10 = v.data.toList := List.take_of_length_le (by rw [hvl]; omega)
          have hzn : WS' 0 (v.data.toList.take 10) (numR 0 v.data.toList) := by rw [ht]; rfl
          simp only at h
          split at h
          ·rename_i s1 heq
           cases h
          ·rename_i r1 sz1 heq
           split at heq
           ·cases heq
           ·rename_i hbig
            cases heq
            split at h
            ·cases h
            ·rename_i hsh
             have := rn12 hw hoff hl hz (by omega) nw h8 hM hMl hb hsz hf hd hne hj hjv hno hvs hdd hzn hv1 hv9 hbig hsh
             generalize numR 0 v.data.toList = z at *
             cases h
             have hBl : ((w.drop n).take z).length = z := by rw [List.length_take, List.length_drop]; omega
             rw [hBl]
             cases L with
             | nil => exact absurd rfl hne
             | cons x r => exact this
   ·rcases KO' hn with ⟨e, h1, h2⟩ | ⟨h4', _⟩
    ·have hh : hdB (w.take n) = hdL [nil0, nil0] := by unfold hdB; rw [h2]
     rw [hh] at h
     unfold hdL at h
     simp only at h
     rw [K1'] at h
     cases h
    ·exact absurd h4' h4
end
open Tree
noncomputable section
abbrev fPrs : Nat := 3
abbrev GG' : Nat := 14
def kFg : List Nat := [0, 1, 1002, 1100, 1101]
theorem fQ' (x : List UInt8) (n : Nat) (F : HP) : wRun [] BS' [] default GH' [.ptr 0 0, sB 1 n] [(0, pZ), (1, rB x)] kFg F = VT.leaf (AV.tuple []) [some (AO.cells [AV.slice 1100 0 n 1 (Cp.lo n)] 122),some (AO.cells (rowV encB x) 10),none,some (AO.cells (List.take (n * 1) (List.drop 0 (rowV encB x))) 10),none] 1101 (k12'.a (((p' (n.ble n = true)).a ((p' ((List.take (n * 1) (List.drop 0 (rowV encB x))).length.beq (n * 1) = true)).a ((p' ((List.take (n * 1) (List.drop 0 (rowV encB x))).all AV.one = true)).a ((p' (Nat.blt 0 n = true)).a ((p' ((n * 1).ble 140737488355328 = true)).a (f' (n.ble 9223372036854775807 = true))))))).a (k12'.a t'))) := by kernel_rfl
noncomputable section
abbrev k180' : Cnd := (f' (0 = 0))
end
theorem YA' (F : HP) : wRun [] (AB' [(GH', 0, 6, h0)]) [] default GH' [.ptr 0 0, sB 1 0] [(0, pZ), (1, rB [])] kFg F = VT.leaf (AV.tuple []) [some (AO.cells [e'] 122),some (AO.cells [] 10),none,none,none] 1100 (k12'.a (k180'.a (k12'.a t'))) := by kernel_rfl
theorem fR' (P x : List UInt8) (off len n : Nat) (F : HP) : wRun [] BS' [] default GH' [.ptr 0 0, sB 1 n] [(0, pO 1002 off len), (1002, rB1 P), (1, rB x)] kFg F = VT.leaf (AV.tuple []) [some (AO.cells [AV.slice 1100 0 (len + n) 1 (Cp.lo (len + n))] 122),some (AO.cells (rowV encB x) 10),none,some (AO.cells (List.take (len * 1) (List.drop off (rowV encB P)) ++ List.take (n * 1) (List.drop 0 (rowV encB x))) (MX' off 11)),none] 1101 (k12'.a (((p' (n.ble n = true)).a ((p' ((List.take (n * 1) (List.drop 0 (rowV encB x))).length.beq (n * 1) = true)).a ((p' ((List.take (n * 1) (List.drop 0 (rowV encB x))).all AV.one = true)).a ((p' (Nat.blt 0 n = true)).a ((p' ((off + len * 1).ble (rowV encB P).length = true)).a ((p' (((len + n) * 1).ble 140737488355328 = true)).a ((p' ((len + n).ble 9223372036854775807 = true)).a (f' ((List.take (len * 1) (List.drop off (rowV encB P))).length.beq (len * 1) = true))))))))).a (k12'.a t'))) := by kernel_rfl
theorem YB' (P : List UInt8) (off len : Nat) (F : HP) : wRun [] (AB' [(GH', 0, 6, h0)]) [] default GH' [.ptr 0 0, sB 1 0] [(0, pO 1002 off len), (1002, rB1 P), (1, rB [])] kFg F = VT.leaf (AV.tuple []) [some (AO.cells [AV.slice 1002 off len 1 (Cp.lo len)] 122),some (AO.cells [] 10),some (AO.cells (rowV encB P) 11),none,none] 1100 (k12'.a (k180'.a (k12'.a t'))) := by kernel_rfl
theorem eL' (F : HP) : wRun [] BS' [] default GG' [.ptr 0 0] [(0, pZ)] [0] F = VT.leaf (i' 0) [some (AO.cells [e'] 122)] 1100 (k12'.a t') := by kernel_rfl
theorem eM' (P : List UInt8) (off len : Nat) (F : HP) : wRun [] BS' [] default GG' [.ptr 0 0] [(0, pO 1002 off len), (1002, rB1 P)] [0, 1002] F = VT.leaf (z' ↑len) [some (AO.cells [AV.slice 1002 off len 1 (Cp.lo len)] 122),some (AO.cells (rowV encB P) 11)] 1100 (k12'.a t') := by kernel_rfl
noncomputable section
abbrev k181' : Cnd := ((p' (true = true)).a (f' (s' nil0 = s' nil0)))
abbrev k182' : Cnd := (f' (nil0 = ByteArray.empty))
end
theorem d4' (F : HP) : wRun [] (AB' (hSm nil0 ++ [(fSm, 4, 4, hv (.lit false))])) [] default fSm [rz0, rz0] [] [] F = VT.leaf (b' true) [] 1102 (k181'.a (k181'.a (k18'.a (k181'.a (k181'.a (k18'.a (k12'.a (k182'.a (k12'.a (k182'.a (k18'.a (k12'.a (k12'.a (k18'.a (k12'.a (k18'.a t')))))))))))))))) := by kernel_rfl
def aPr (b : AV) (p q off n l i : Nat) : List (Nat × AV) := [(24, b), (3, .ptr p 0), (4, sO q off n), (25, iv (Int.ofNat l)), (26, iv (Int.ofNat i))]
def aSa (b : AV) (off n l i k j : Nat) : List (Nat × AV) := [(24, b), (3, .ptr 1 0), (4, sO 2 off n), (7, sB 0 k), (25, iv (Int.ofNat l)), (26, iv (Int.ofNat i)), (52, iv (Int.ofNat k)), (53, iv (Int.ofNat j))]
def oSa (y w P : List UInt8) : LH := [(0, rB y), (1, parO w), (2, rB1 P)]
def iSa : List Nat := [24, 3, 4, 7, 25, 26, 52, 53]
noncomputable section
abbrev k183' (q0 : Nat) (q1 : List UInt8) : Cnd := (f' ((0 + q0 * 1 + 1).ble (rowV encB q1).length = true))
end
theorem dB' (W : World) (b : Value) (y w P : List UInt8) (off n l i k j : Nat) (F : HP) : AV' [] (AB' [(fPrs, 17, 0, hv (.lit true)), (fPrs, 20, 0, hv (iv (Int.ofNat (j + 1))))]) [] W fPrs (A4' fPrs 17) (tms 0 119 (aSa (.v b) off n l i k j)) (oSa y w P) [0, 1, 2] iSa F = VT.leaf (AX.normal,[AV.v b,AV.ptr 1 0,AV.slice 2 off n 1 (Cp.lo n),AV.slice 0 0 k 1 (Cp.lo k),i' l,i' i,i' k,i' (j + 1)],119) [some (AO.cells (splice (rowV encB y) (0 + j * 1) [AV.v (Value.int IntKind.u8 (Int.ofNat 238))]) 10),some (AO.own Md.nothing (exHP (parR w) parL)),some (AO.cells (rowV encB P) 11)] 1100 ((k1' j k).a ((k2' j k).a ((k183' j y).a ((k6' j).a t')))) := by kernel_rfl
theorem dC' (W : World) (b : Value) (y w P : List UInt8) (off n l i k : Nat) (F : HP) : AV' [] (AB' [(fPrs, 17, 0, hv (.lit false))]) [] W fPrs (A4' fPrs 17) (tms 0 119 (aSa (.v b) off n l i k k)) (oSa y w P) [0, 1, 2] iSa F = VT.leaf (AX.exit 2,[AV.v b,AV.ptr 1 0,AV.slice 2 off n 1 (Cp.lo n),AV.slice 0 0 k 1 (Cp.lo k),i' l,i' i,i' k,i' k],119) [some (AO.cells (rowV encB y) 10),some (AO.own Md.nothing (exHP (parR w) parL)),some (AO.cells (rowV encB P) 11)] 1100 ((k14' k).a t') := by kernel_rfl
def aSb (b : AV) (off n l i k j : Nat) : List (Nat × AV) := [(24, b), (3, .ptr 1 0), (4, sO 2 off n), (9, .ptr 0 0), (25, iv (Int.ofNat l)), (26, iv (Int.ofNat i)), (92, iv (Int.ofNat k)), (93, iv (Int.ofNat j))]
def oSbZ (m t : ByteArray) (k : Nat) (y w P : List UInt8) : LH := [(0, rqO m t nilP (sB 3 k)), (1, parO w), (2, rB1 P), (3, rB y)]
def oSbR (m t : ByteArray) (L : Hds) (k : Nat) (y w P : List UInt8) : LH := [(0, rqO m t (sP 4 L.length) (sB 3 k)), (1, parO w), (2, rB1 P), (3, rB y), (4, rP L)]
def iSb : List Nat := [24, 3, 4, 9, 25, 26, 92, 93]
theorem d9' (W : World) (b : Value) (m t : ByteArray) (y w P : List UInt8) (off n l i k j : Nat) (F : HP) : AV' [] (AB' [(fPrs, 27, 0, hv (.lit true)), (fPrs, 30, 0, hv (iv (Int.ofNat (j + 1))))]) [] W fPrs (A4' fPrs 27) (tms 0 119 (aSb (.v b) off n l i k j)) (oSbZ m t k y w P) [0, 1, 2, 3] iSb F = VT.leaf (AX.normal,[AV.v b,AV.ptr 1 0,AV.slice 2 off n 1 (Cp.lo n),AV.ptr 0 0,i' l,i' i,i' k,i' (j + 1)],119) [some (AO.cells [s' m,s' t,e',AV.slice 3 0 k 1 (Cp.lo k)] 64),some (AO.own Md.nothing (exHP (parR w) parL)),some (AO.cells (rowV encB P) 11),some (AO.cells (splice (rowV encB y) (0 + j * 1) [AV.v (Value.int IntKind.u8 (Int.ofNat 221))]) 10)] 1100 ((k1' j k).a (k12'.a ((k2' j k).a ((k183' j y).a ((k6' j).a t'))))) := by kernel_rfl
theorem XN' (W : World) (b : Value) (m t : ByteArray) (y w P : List UInt8) (off n l i k : Nat) (F : HP) : AV' [] (AB' [(fPrs, 27, 0, hv (.lit false))]) [] W fPrs (A4' fPrs 27) (tms 0 119 (aSb (.v b) off n l i k k)) (oSbZ m t k y w P) [0, 1, 2, 3] iSb F = VT.leaf (AX.exit 4,[AV.v b,AV.ptr 1 0,AV.slice 2 off n 1 (Cp.lo n),AV.ptr 0 0,i' l,i' i,i' k,i' k],119) [some (AO.cells [s' m,s' t,e',AV.slice 3 0 k 1 (Cp.lo k)] 64),some (AO.own Md.nothing (exHP (parR w) parL)),some (AO.cells (rowV encB P) 11),some (AO.cells (rowV encB y) 10)] 1100 ((k14' k).a t') := by kernel_rfl
theorem dA' (W : World) (b : Value) (m t : ByteArray) (L : Hds) (y w P : List UInt8) (off n l i k j : Nat) (F : HP) : AV' [] (AB' [(fPrs, 27, 0, hv (.lit true)), (fPrs, 30, 0, hv (iv (Int.ofNat (j + 1))))]) [] W fPrs (A4' fPrs 27) (tms 0 119 (aSb (.v b) off n l i k j)) (oSbR m t L k y w P) [0, 1, 2, 3, 4] iSb F = VT.leaf (AX.normal,[AV.v b,AV.ptr 1 0,AV.slice 2 off n 1 (Cp.lo n),AV.ptr 0 0,i' l,i' i,i' k,i' (j + 1)],119) [some (AO.cells [s' m,s' t,AV.slice 4 0 (List.length L) 2 (Cp.lo (List.length L)),AV.slice 3 0 k 1 (Cp.lo k)] 64),some (AO.own Md.nothing (exHP (parR w) parL)),some (AO.cells (rowV encB P) 11),some (AO.cells (splice (rowV encB y) (0 + j * 1) [AV.v (Value.int IntKind.u8 (Int.ofNat 221))]) 10),some (AO.cells (rowV encP L) 78)] 1100 ((k1' j k).a (k12'.a ((k2' j k).a ((k183' j y).a ((k6' j).a t'))))) := by kernel_rfl
theorem XO' (W : World) (b : Value) (m t : ByteArray) (L : Hds) (y w P : List UInt8) (off n l i k : Nat) (F : HP) : AV' [] (AB' [(fPrs, 27, 0, hv (.lit false))]) [] W fPrs (A4' fPrs 27) (tms 0 119 (aSb (.v b) off n l i k k)) (oSbR m t L k y w P) [0, 1, 2, 3, 4] iSb F = VT.leaf (AX.exit 4,[AV.v b,AV.ptr 1 0,AV.slice 2 off n 1 (Cp.lo n),AV.ptr 0 0,i' l,i' i,i' k,i' k],119) [some (AO.cells [s' m,s' t,AV.slice 4 0 (List.length L) 2 (Cp.lo (List.length L)),AV.slice 3 0 k 1 (Cp.lo k)] 64),some (AO.own Md.nothing (exHP (parR w) parL)),some (AO.cells (rowV encB P) 11),some (AO.cells (rowV encB y) 10),some (AO.cells (rowV encP L) 78)] 1100 ((k14' k).a t') := by kernel_rfl
def aSc (b : AV) (off n l i k j : Nat) : List (Nat × AV) := [(24, b), (3, .ptr 1 0), (4, sO 2 off n), (9, .ptr 0 0), (25, iv (Int.ofNat l)), (26, iv (Int.ofNat i)), (103, iv (Int.ofNat k)), (104, iv (Int.ofNat j))]
def oSc (m t : ByteArray) (q : Nat) (L : Hds) (w P : List UInt8) : LH := [(0, rqO m t (sP 4 q) .any), (1, parO w), (2, rB1 P), (4, rP L)]
def iSc : List Nat := [24, 3, 4, 9, 25, 26, 103, 104]
theorem d7' (W : World) (b : Value) (m t : ByteArray) (L : Hds) (w P : List UInt8) (off n l i q j : Nat) (F : HP) : AV' [] (AB' [(fPrs, 32, 0, hv (.lit true)), (fPrs, 35, 0, hv (iv (Int.ofNat (j + 1))))]) [] W fPrs (A4' fPrs 32) (tms 0 119 (aSc (.v b) off n l i q j)) (oSc m t q L w P) [0, 1, 2, 4] iSc F = VT.leaf (AX.normal,[AV.v b,AV.ptr 1 0,AV.slice 2 off n 1 (Cp.lo n),AV.ptr 0 0,i' l,i' i,i' q,i' (j + 1)],119) [some (AO.cells [s' m,s' t,AV.slice 4 0 q 2 (Cp.lo q),a'] 64),some (AO.own Md.nothing (exHP (parR w) parL)),some (AO.cells (rowV encB P) 11),some (AO.cells (splice (rowV encP L) (0 + j * 2 + 0) [s' (ByteArray.mk (Array.mk [42]))]) 78)] 1100 ((k1' j q).a (k12'.a ((k2' j q).a ((f' ((0 + j * 2 + 0 + 1).ble (rowV encP L).length = true)).a ((k6' j).a t'))))) := by kernel_rfl
theorem d8' (W : World) (b : Value) (m t : ByteArray) (L : Hds) (w P : List UInt8) (off n l i q : Nat) (F : HP) : AV' [] (AB' [(fPrs, 32, 0, hv (.lit false))]) [] W fPrs (A4' fPrs 32) (tms 0 119 (aSc (.v b) off n l i q q)) (oSc m t q L w P) [0, 1, 2, 4] iSc F = VT.leaf (AX.exit 6,[AV.v b,AV.ptr 1 0,AV.slice 2 off n 1 (Cp.lo n),AV.ptr 0 0,i' l,i' i,i' q,i' q],119) [some (AO.cells [s' m,s' t,AV.slice 4 0 q 2 (Cp.lo q),a'] 64),some (AO.own Md.nothing (exHP (parR w) parL)),some (AO.cells (rowV encB P) 11),some (AO.cells (rowV encP L) 78)] 1100 ((k14' q).a t') := by kernel_rfl
end
theorem OE' {cs cs' : List AV} {e : TypeId} (hl : cs.length = cs'.length) (h : VW cs cs') : OW (.cells cs e) (.cells cs' e) := by
 intro N i D w hw
 obtain ⟨l, arr, fz, q1, q2, q3, q4, q5, q6, q7, q8⟩ := hw
 exact ⟨l, arr, fz, q1, q2, q3, q4, by rw [← hl]; exact q5, q6, by rw [← hl]; exact h _ _ q7, q8⟩
theorem X0' (w x : List UInt8) (hb : w.length + x.length ≤ 4000000) : Tri Tryz.prog default GH' [.ptr 0 0, sB 1 x.length] [(0, parO w), (1, rB x)] (.tuple []) [(0, parO (w ++ x)), (1, rB x)] := by
 have hx1 : x.length.ble x.length = true := by rw [Nat.ble_eq]; exact n0
 have hx2 : (rowV encB x).length.beq x.length = true := by rw [BR']; exact Nat.beq_refl _
 have hx3 : (rowV encB x).all AV.one = true := MU' (fun _ => rfl) _
 have hx4 := Q2' x
 have b1 : x.length.ble 140737488355328 = true := C6' (by omega)
 have b2 : x.length.ble 9223372036854775807 = true := C6' (by omega)
 refine K0' (H0 := [(1, rB x)]) ⟨rfl, rfl, rfl⟩ (fun e => ?_) (fun P off h1 h2 => ?_)
 ·subst e
  rw [List.nil_append]
  by_cases h0 : x = []
  ·subst h0
   refine Tri.post (H' := [(0, pZ), (1, rB [])]) (v := .tuple []) ?_ (KC' (H0 := [(1, rB [])]) ⟨rfl, rfl, rfl⟩ ⟨t0, t0⟩ (A0' (CE' _ _) A3'))
   refine AA' (con := []) (hints := AB' [(GH', 0, 6, h0)]) (lc := []) kFg rfl (fun F hF => noC) (fun F hF => noL) fun F => ?_
   refine cv (YA' F) ⟨⟨?_, (AF' (vs' := [.tuple []]) (H' := [(0, pZ), (1, rB [])]) [] rfl rfl (v0) ⟨⟨_, rfl, XM' rfl⟩, ⟨_, rfl, BW' rfl rfl⟩, t0⟩).fits rfl⟩⟩
   simp only [Cnd.holds, A2', Nat.blt_eq, true_and, and_true]
   and_intros
   all_goals first | (with_reducible first | exact t0 | exact r0 | exact A6' _ | assumption) | exact r0 | ((repeat (first | exact VW.nil | refine c1 ?_ | refine c2 ?_ | refine c3 ?_)); done)
  ·have hp : 0 < x.length := List.length_pos_iff.2 h0
   have b0 : Nat.blt 0 x.length = true := by rw [Nat.blt_eq]; exact hp
   refine Tri.post (H' := [(0, pO 1002 0 x.length), (1002, rB1 x), (1, rB x)]) (v := .tuple []) ?_ (H1' (H0 := [(1, rB x)]) ⟨rfl, rfl, rfl⟩ rfl (Nat.zero_add _) ⟨t0, t0⟩ (A0' (CE' _ _) A3'))
   refine AA' (con := []) (hints := BS') (lc := []) kFg rfl (fun F hF => noC) (fun F hF => noL) fun F => ?_
   refine cv (fQ' x x.length F) ⟨⟨?_, (AF' (vs' := [.tuple []]) (H' := [(0, pO 1002 0 x.length), (1002, rB1 x), (1, rB x)]) [(1002, 1100)] rfl rfl (v0) ⟨⟨_, rfl, o0⟩, ⟨_, rfl, XG' (by rw [Nat.mul_one, hx4])⟩, ⟨_, rfl, BW' rfl rfl⟩, t0⟩).fits rfl⟩⟩
   simp only [Cnd.holds, Nat.mul_one, hx1, hx2, hx3, hx4, b0, b1, b2, Nat.blt_eq, true_and, and_true]
   and_intros
   all_goals first | (with_reducible first | exact t0 | exact r0 | exact A6' _ | assumption) | exact r0 | ((repeat (first | exact VW.nil | refine c1 ?_ | refine c2 ?_ | refine c3 ?_)); done)
 ·by_cases h0 : x = []
  ·subst h0
   rw [List.append_nil]
   refine Tri.post (H' := [(0, pO 1002 off w.length), (1002, rB1 P), (1, rB [])]) (v := .tuple []) ?_ (H1' (H0 := [(1, rB [])]) ⟨rfl, rfl, rfl⟩ h1 h2 ⟨t0, t0⟩ (A0' (CE' _ _) A3'))
   refine AA' (con := []) (hints := AB' [(GH', 0, 6, h0)]) (lc := []) kFg rfl (fun F hF => noC) (fun F hF => noL) fun F => ?_
   refine cv (YB' P off w.length F) ⟨⟨?_, (AF' (vs' := [.tuple []]) (H' := [(0, pO 1002 off w.length), (1002, rB1 P), (1, rB [])]) [(1002, 1002)] rfl rfl (v0) ⟨⟨_, rfl, E9' rfl rfl⟩, ⟨_, rfl, AJ' rfl rfl⟩, ⟨_, rfl, BW' rfl rfl⟩, t0⟩).fits rfl⟩⟩
   simp only [Cnd.holds, A2', Nat.blt_eq, true_and, and_true]
   and_intros
   all_goals first | (with_reducible first | exact t0 | exact r0 | exact A6' _ | assumption) | exact r0 | ((repeat (first | exact VW.nil | refine c1 ?_ | refine c2 ?_ | refine c3 ?_)); done)
  ·have hp : 0 < x.length := List.length_pos_iff.2 h0
   have b0 : Nat.blt 0 x.length = true := by rw [Nat.blt_eq]; exact hp
   have hP : List.take w.length (List.drop off (rowV encB P)) = rowV encB w := KI' h1
   have k1 : (off + w.length).ble (rowV encB P).length = true := by rw [BR', Nat.ble_eq]; omega
   have k2 : (rowV encB w).length.beq w.length = true := by rw [BR']; exact Nat.beq_refl _
   have b3 : (w.length + x.length).ble 140737488355328 = true := C6' (by omega)
   have b4 : (w.length + x.length).ble 9223372036854775807 = true := C6' (by omega)
   refine Tri.post (H' := [(0, pO 1002 0 (w ++ x).length), (1002, rB1 (w ++ x)), (1, rB x)]) (v := .tuple []) ?_ (H1' (H0 := [(1, rB x)]) ⟨rfl, rfl, rfl⟩ rfl (Nat.zero_add _) ⟨t0, t0⟩ (A0' (CE' _ _) A3'))
   rw [List.length_append]
   refine AA' (con := []) (hints := BS') (lc := []) kFg rfl (fun F hF => noC) (fun F hF => noL) fun F => ?_
   refine cv (fR' P x off w.length x.length F) ⟨⟨?_, (AF' (vs' := [.tuple []]) (H' := [(0, pO 1002 0 (w.length + x.length)), (1002, rB1 (w ++ x)), (1, rB x)]) [(1002, 1100)] rfl rfl (v0) ⟨⟨_, rfl, o0⟩, ⟨_, rfl, rB1_mv (by rw [Nat.mul_one, Nat.mul_one, hx4, hP, CK'])⟩, ⟨_, rfl, BW' rfl rfl⟩, t0⟩).fits rfl⟩⟩
   simp only [Cnd.holds, Nat.mul_one, hx1, hx2, hx3, hx4, b0, b1, b2, hP, k1, k2, b3, b4, Nat.blt_eq, true_and, and_true]
   and_intros
   all_goals first | (with_reducible first | exact t0 | exact r0 | exact A6' _ | assumption) | exact r0 | ((repeat (first | exact VW.nil | refine c1 ?_ | refine c2 ?_ | refine c3 ?_)); done)
theorem aC' (w : List UInt8) : Tri Tryz.prog default GG' [.ptr 0 0] [(0, parO w)] (iv (Int.ofNat w.length)) [(0, parO w)] := by
 refine K0' (H0 := []) ⟨rfl, rfl, rfl⟩ (fun e => ?_) (fun P off h1 h2 => ?_)
 ·subst e
  refine Tri.post (H' := [(0, pZ)]) (v := iv (Int.ofNat 0)) ?_ (KC' (H0 := []) ⟨rfl, rfl, rfl⟩ ⟨t0, t0⟩ A3')
  refine AA' (con := []) (hints := BS') (lc := []) [0] rfl (fun F hF => noC) (fun F hF => noL) fun F => ?_
  refine cv (eL' F) ⟨⟨?_, (AF' (vs' := [iv (Int.ofNat 0)]) (H' := [(0, pZ)]) [] rfl rfl (v0) ⟨⟨_, rfl, XM' rfl⟩, t0⟩).fits rfl⟩⟩
  simp only [Cnd.holds, A2', Nat.blt_eq, true_and, and_true]
  and_intros
  all_goals first | (with_reducible first | exact t0 | exact r0 | exact A6' _ | assumption) | exact r0 | ((repeat (first | exact VW.nil | refine c1 ?_ | refine c2 ?_ | refine c3 ?_)); done)
 ·refine Tri.post (H' := [(0, pO 1002 off w.length), (1002, rB1 P)]) (v := iv (Int.ofNat w.length)) ?_ (H1' (H0 := []) ⟨rfl, rfl, rfl⟩ h1 h2 ⟨t0, t0⟩ A3')
  refine AA' (con := []) (hints := BS') (lc := []) [0, 1002] rfl (fun F hF => noC) (fun F hF => noL) fun F => ?_
  refine cv (eM' P off w.length F) ⟨⟨?_, (AF' (vs' := [iv (Int.ofNat w.length)]) (H' := [(0, pO 1002 off w.length), (1002, rB1 P)]) [(1002, 1002)] rfl rfl (v0) ⟨⟨_, rfl, E9' rfl rfl⟩, ⟨_, rfl, AJ' rfl rfl⟩, t0⟩).fits rfl⟩⟩
  simp only [Cnd.holds, A2', Nat.blt_eq, true_and, and_true]
  and_intros
  all_goals first | (with_reducible first | exact t0 | exact r0 | exact A6' _ | assumption) | exact r0 | ((repeat (first | exact VW.nil | refine c1 ?_ | refine c2 ?_ | refine c3 ?_)); done)
theorem iA' : Tri Tryz.prog default fSm [rz0, rz0] [] (bv true) [] := by
 refine AA' (con := []) (hints := AB' (hSm nil0 ++ [(fSm, 4, 4, hv (.lit false))])) (lc := []) [] rfl (fun F hF => noC) (fun F hF => noL) fun F => ?_
 refine cv (d4' F) ⟨⟨?_, (AF' (vs' := [bv true]) (H' := []) [] rfl rfl (v0) trivial).fits rfl⟩⟩
 simp only [Cnd.holds, A2', Nat.blt_eq, true_and, and_true]
 and_intros
 all_goals first | (with_reducible first | exact t0 | exact r0 | exact A6' _ | assumption) | exact r0 | ((repeat (first | exact VW.nil | refine c1 ?_ | refine c2 ?_ | refine c3 ?_)); done)
theorem NB' (y : List UInt8) (j : Nat) (hj : j < y.length) (x : UInt8) {z : Int} (hz : z = Int.ofNat x.toNat) : splice (rowV encB y) (0 + j * 1) [AV.v (Value.int IntKind.u8 z)] = rowV encB (y.set j x) := by
 subst hz
 rw [Nat.zero_add]
 exact KF' (k := 1) K2' y j x hj
theorem gT' (L : Hds) (j : Nat) (hj : j < L.length) (s : ByteArray) : splice (rowV encP L) (0 + j * 2 + 0) [AV.v (Value.string s)] = rowV encP (L.set j (s, (L.getD j pr0).2)) := by
 have h := KF' (k := 2) EF' L j (s, (L.getD j pr0).2) hj
 rw [← h, Nat.zero_add, Nat.add_zero]
 have hv := KK' L j hj (k := (L.getD j pr0).1) (v := (L.getD j pr0).2) rfl AV.undef
 rw [Nat.zero_add] at hv
 have hl : j * 2 + 1 < (rowV encP L).length := by rw [DX' (k := 2) EF']; omega
 unfold splice
 have e : List.drop (j * 2 + [AV.v (Value.string s)].length) (rowV encP L) = sv (L.getD j pr0).2 :: List.drop (j * 2 + (vmap (encP (s, (L.getD j pr0).2))).length) (rowV encP L) := by
  show List.drop (j * 2 + 1) (rowV encP L) = sv (L.getD j pr0).2 :: List.drop (j * 2 + 1 + 1) (rowV encP L)
  rw [List.drop_eq_getElem_cons hl, ← hv, List.getD_eq_getElem?_getD, List.getElem?_eq_getElem hl]
  rfl
 rw [e, List.append_assoc, List.append_assoc]
 rfl
theorem Q4' {y : List UInt8} {j : Nat} (hj : j < y.length) : (0 + j * 1 + 1).ble (rowV encB y).length = true := by rw [BR', Nat.ble_eq]; omega
theorem bL' {L : Hds} {j : Nat} (hj : j < L.length) : (0 + j * 2 + 0 + 1).ble (rowV encP L).length = true := by rw [DX' (k := 2) EF', Nat.ble_eq]; omega
section
variable {W : World} (b : Value) (w P : List UInt8) (off n l i : Nat)
theorem bJ' (x : List UInt8) (hx : x.length ≤ 4000000) : LTri Tryz.prog W (A4' fPrs 17) (tms 0 119 (aSa (.v b) off n l i x.length 0)) (oSa x w P) (.exit 2) (tms 0 119 (aPr (.v b) 1 2 off n l i)) [(1, parO w), (2, rB1 P)] := by
 refine AS' (W := W) (g := fPrs) (b := A4' fPrs 17) (σ := {q : Nat × List UInt8 // q.1 ≤ x.length ∧ q.2.length = x.length}) 119 (fun q => aSa (.v b) off n l i x.length q.1.1) (fun q => oSa q.1.2 w P) (.exit 2) (aPr (.v b) 1 2 off n l i) [(1, parO w), (2, rB1 P)] (fun q => x.length - q.1.1) [0, 1, 2] iSa (by intro h; cases h) (fun _ => rfl) rfl ?_ ⟨(0, x), Nat.zero_le _, rfl⟩
 rintro ⟨⟨j, y⟩, hj, hy⟩
 simp only at hj hy
 simp only
 by_cases hl : j < x.length
 ·have hw := AO' j (by omega)
  have e1 := ltTN hl
  have g3 : j.blt x.length = true := by rw [Nat.blt_eq]; exact hl
  have hjy : j < y.length := by omega
  have g4 := Q4' hjy
  refine ⟨[], AB' [(fPrs, 17, 0, hv (.lit true)), (fPrs, 20, 0, hv (iv (Int.ofNat (j + 1))))], [], fun _ _ => noC, fun _ _ => noL, fun F => ?_⟩
  refine cv (dB' W b y w P off n l i x.length j F) ⟨⟨?_, rfl, .inl ⟨rfl, ⟨(j + 1, y.set j 238), hl, by simp only [List.length_set]; exact hy⟩, AR' hl, [], rfl, rfl, ⟨w0, w0, w0, w0, w0, w0, w0, w0, t0⟩, ⟨_, rfl, BW' (NB' y j hjy 238 rfl) rfl⟩, ⟨_, rfl, o0⟩, ⟨_, rfl, AJ' rfl rfl⟩, t0⟩⟩⟩
  simp only [Cnd.holds, g3, g4, Nat.blt_eq, true_and, and_true]
  and_intros
  all_goals first
   | (with_reducible exact AG' hw)
   | exact A1' e1 | (with_reducible first | exact t0 | exact r0 | exact A6' _ | assumption) | exact r0 | ((repeat (first | exact VW.nil | refine c1 ?_ | refine c2 ?_ | refine c3 ?_)); done)
 ·have hie : j = x.length := by omega
  subst hie
  refine ⟨[], AB' [(fPrs, 17, 0, hv (.lit false))], [], fun _ _ => noC, fun _ _ => noL, fun F => ?_⟩
  refine cv (dC' W b y w P off n l i x.length F) ⟨⟨?_, rfl, .inr ⟨rfl, [], rfl, rfl, ⟨w0, w0, w0, w0, w0, t0⟩, ⟨_, rfl, o0⟩, ⟨_, rfl, AJ' rfl rfl⟩, t0⟩⟩⟩
  simp only [Cnd.holds, A2', Nat.blt_eq, true_and, and_true]
  and_intros
  all_goals first
   | exact A1' (ltFN (n0)) | (with_reducible first | exact t0 | exact r0 | exact A6' _ | assumption) | exact r0 | ((repeat (first | exact VW.nil | refine c1 ?_ | refine c2 ?_ | refine c3 ?_)); done)
theorem X8' (m t : ByteArray) (x : List UInt8) (hx : x.length ≤ 4000000) : LTri Tryz.prog W (A4' fPrs 27) (tms 0 119 (aSb (.v b) off n l i x.length 0)) (oSbZ m t x.length x w P) (.exit 4) (tms 0 119 ((9, .ptr 0 0) :: aPr (.v b) 1 2 off n l i)) [(0, rqO m t nilP .any), (1, parO w), (2, rB1 P)] := by
 refine AS' (W := W) (g := fPrs) (b := A4' fPrs 27) (σ := {q : Nat × List UInt8 // q.1 ≤ x.length ∧ q.2.length = x.length}) 119 (fun q => aSb (.v b) off n l i x.length q.1.1) (fun q => oSbZ m t x.length q.1.2 w P) (.exit 4) ((9, .ptr 0 0) :: aPr (.v b) 1 2 off n l i) [(0, rqO m t nilP .any), (1, parO w), (2, rB1 P)] (fun q => x.length - q.1.1) [0, 1, 2, 3] iSb (by intro h; cases h) (fun _ => rfl) rfl ?_ ⟨(0, x), Nat.zero_le _, rfl⟩
 rintro ⟨⟨j, y⟩, hj, hy⟩
 simp only at hj hy
 simp only
 by_cases hl : j < x.length
 ·have hw := AO' j (by omega)
  have e1 := ltTN hl
  have g3 : j.blt x.length = true := by rw [Nat.blt_eq]; exact hl
  have hjy : j < y.length := by omega
  have g4 := Q4' hjy
  refine ⟨[], AB' [(fPrs, 27, 0, hv (.lit true)), (fPrs, 30, 0, hv (iv (Int.ofNat (j + 1))))], [], fun _ _ => noC, fun _ _ => noL, fun F => ?_⟩
  refine cv (d9' W b m t y w P off n l i x.length j F) ⟨⟨?_, rfl, .inl ⟨rfl, ⟨(j + 1, y.set j 221), hl, by simp only [List.length_set]; exact hy⟩, AR' hl, [], rfl, rfl, ⟨w0, w0, w0, w0, w0, w0, w0, w0, t0⟩, ⟨_, rfl, o0⟩, ⟨_, rfl, o0⟩, ⟨_, rfl, AJ' rfl rfl⟩, ⟨_, rfl, BW' (NB' y j hjy 221 rfl) rfl⟩, t0⟩⟩⟩
  simp only [Cnd.holds, g3, g4, Nat.blt_eq, true_and, and_true]
  and_intros
  all_goals first
   | (with_reducible exact AG' hw)
   | exact A1' e1 | (with_reducible first | exact t0 | exact r0 | exact A6' _ | assumption) | exact r0 | ((repeat (first | exact VW.nil | refine c1 ?_ | refine c2 ?_ | refine c3 ?_)); done)
 ·have hie : j = x.length := by omega
  subst hie
  refine ⟨[], AB' [(fPrs, 27, 0, hv (.lit false))], [], fun _ _ => noC, fun _ _ => noL, fun F => ?_⟩
  refine cv (XN' W b m t y w P off n l i x.length F) ⟨⟨?_, rfl, .inr ⟨rfl, [], rfl, rfl, ⟨w0, w0, w0, w0, w0, w0, t0⟩, ⟨_, rfl, OE' rfl (VW.cons w0 (VW.cons w0 (VW.cons w0 (VW.cons (Wk.any _) VW.nil))))⟩, ⟨_, rfl, o0⟩, ⟨_, rfl, AJ' rfl rfl⟩, t0⟩⟩⟩
  simp only [Cnd.holds, A2', Nat.blt_eq, true_and, and_true]
  and_intros
  all_goals first
   | exact A1' (ltFN (n0)) | (with_reducible first | exact t0 | exact r0 | exact A6' _ | assumption) | exact r0 | ((repeat (first | exact VW.nil | refine c1 ?_ | refine c2 ?_ | refine c3 ?_)); done)
theorem X9' (m t : ByteArray) (L : Hds) (x : List UInt8) (hx : x.length ≤ 4000000) : LTri Tryz.prog W (A4' fPrs 27) (tms 0 119 (aSb (.v b) off n l i x.length 0)) (oSbR m t L x.length x w P) (.exit 4) (tms 0 119 ((9, .ptr 0 0) :: aPr (.v b) 1 2 off n l i)) [(0, rqO m t (sP 4 L.length) .any), (1, parO w), (2, rB1 P), (4, rP L)] := by
 refine AS' (W := W) (g := fPrs) (b := A4' fPrs 27) (σ := {q : Nat × List UInt8 // q.1 ≤ x.length ∧ q.2.length = x.length}) 119 (fun q => aSb (.v b) off n l i x.length q.1.1) (fun q => oSbR m t L x.length q.1.2 w P) (.exit 4) ((9, .ptr 0 0) :: aPr (.v b) 1 2 off n l i) [(0, rqO m t (sP 4 L.length) .any), (1, parO w), (2, rB1 P), (4, rP L)] (fun q => x.length - q.1.1) [0, 1, 2, 3, 4] iSb (by intro h; cases h) (fun _ => rfl) rfl ?_ ⟨(0, x), Nat.zero_le _, rfl⟩
 rintro ⟨⟨j, y⟩, hj, hy⟩
 simp only at hj hy
 simp only
 by_cases hl : j < x.length
 ·have hw := AO' j (by omega)
  have e1 := ltTN hl
  have g3 : j.blt x.length = true := by rw [Nat.blt_eq]; exact hl
  have hjy : j < y.length := by omega
  have g4 := Q4' hjy
  refine ⟨[], AB' [(fPrs, 27, 0, hv (.lit true)), (fPrs, 30, 0, hv (iv (Int.ofNat (j + 1))))], [], fun _ _ => noC, fun _ _ => noL, fun F => ?_⟩
  refine cv (dA' W b m t L y w P off n l i x.length j F) ⟨⟨?_, rfl, .inl ⟨rfl, ⟨(j + 1, y.set j 221), hl, by simp only [List.length_set]; exact hy⟩, AR' hl, [], rfl, rfl, ⟨w0, w0, w0, w0, w0, w0, w0, w0, t0⟩, ⟨_, rfl, o0⟩, ⟨_, rfl, o0⟩, ⟨_, rfl, AJ' rfl rfl⟩, ⟨_, rfl, BW' (NB' y j hjy 221 rfl) rfl⟩, ⟨_, rfl, BQ' rfl rfl⟩, t0⟩⟩⟩
  simp only [Cnd.holds, g3, g4, Nat.blt_eq, true_and, and_true]
  and_intros
  all_goals first
   | (with_reducible exact AG' hw)
   | exact A1' e1 | (with_reducible first | exact t0 | exact r0 | exact A6' _ | assumption) | exact r0 | ((repeat (first | exact VW.nil | refine c1 ?_ | refine c2 ?_ | refine c3 ?_)); done)
 ·have hie : j = x.length := by omega
  subst hie
  refine ⟨[], AB' [(fPrs, 27, 0, hv (.lit false))], [], fun _ _ => noC, fun _ _ => noL, fun F => ?_⟩
  refine cv (XO' W b m t L y w P off n l i x.length F) ⟨⟨?_, rfl, .inr ⟨rfl, [], rfl, rfl, ⟨w0, w0, w0, w0, w0, w0, t0⟩, ⟨_, rfl, OE' rfl (VW.cons w0 (VW.cons w0 (VW.cons w0 (VW.cons (Wk.any _) VW.nil))))⟩, ⟨_, rfl, o0⟩, ⟨_, rfl, AJ' rfl rfl⟩, ⟨_, rfl, BQ' rfl rfl⟩, t0⟩⟩⟩
  simp only [Cnd.holds, A2', Nat.blt_eq, true_and, and_true]
  and_intros
  all_goals first
   | exact A1' (ltFN (n0)) | (with_reducible first | exact t0 | exact r0 | exact A6' _ | assumption) | exact r0 | ((repeat (first | exact VW.nil | refine c1 ?_ | refine c2 ?_ | refine c3 ?_)); done)
theorem bI' (m t : ByteArray) (L : Hds) (hx : L.length ≤ 4000000) : LTri Tryz.prog W (A4' fPrs 32) (tms 0 119 (aSc (.v b) off n l i L.length 0)) (oSc m t L.length L w P) (.exit 6) (tms 0 119 (aPr (.v b) 1 2 off n l i)) [(1, parO w), (2, rB1 P)] := by
 refine AS' (W := W) (g := fPrs) (b := A4' fPrs 32) (σ := {q : Nat × Hds // q.1 ≤ L.length ∧ q.2.length = L.length}) 119 (fun q => aSc (.v b) off n l i L.length q.1.1) (fun q => oSc m t L.length q.1.2 w P) (.exit 6) (aPr (.v b) 1 2 off n l i) [(1, parO w), (2, rB1 P)] (fun q => L.length - q.1.1) [0, 1, 2, 4] iSc (by intro h; cases h) (fun _ => rfl) rfl ?_ ⟨(0, L), Nat.zero_le _, rfl⟩
 rintro ⟨⟨j, y⟩, hj, hy⟩
 simp only at hj hy
 simp only
 by_cases hl : j < L.length
 ·have hw := AO' j (by omega)
  have e1 := ltTN hl
  have g3 : j.blt L.length = true := by rw [Nat.blt_eq]; exact hl
  have hjy : j < y.length := by omega
  have g4 := bL' hjy
  refine ⟨[], AB' [(fPrs, 32, 0, hv (.lit true)), (fPrs, 35, 0, hv (iv (Int.ofNat (j + 1))))], [], fun _ _ => noC, fun _ _ => noL, fun F => ?_⟩
  refine cv (d7' W b m t y w P off n l i L.length j F) ⟨⟨?_, rfl, .inl ⟨rfl, ⟨(j + 1, y.set j (ByteArray.mk (Array.mk [42]), (y.getD j pr0).2)), hl, by simp only [List.length_set]; exact hy⟩, AR' hl, [], rfl, rfl, ⟨w0, w0, w0, w0, w0, w0, w0, w0, t0⟩, ⟨_, rfl, o0⟩, ⟨_, rfl, o0⟩, ⟨_, rfl, AJ' rfl rfl⟩, ⟨_, rfl, BQ' (gT' y j hjy _) rfl⟩, t0⟩⟩⟩
  simp only [Cnd.holds, g3, g4, Nat.blt_eq, true_and, and_true]
  and_intros
  all_goals first
   | (with_reducible exact AG' hw)
   | exact A1' e1 | (with_reducible first | exact t0 | exact r0 | exact A6' _ | assumption) | exact r0 | ((repeat (first | exact VW.nil | refine c1 ?_ | refine c2 ?_ | refine c3 ?_)); done)
 ·have hie : j = L.length := by omega
  subst hie
  refine ⟨[], AB' [(fPrs, 32, 0, hv (.lit false))], [], fun _ _ => noC, fun _ _ => noL, fun F => ?_⟩
  refine cv (d8' W b m t y w P off n l i L.length F) ⟨⟨?_, rfl, .inr ⟨rfl, [], rfl, rfl, ⟨w0, w0, w0, w0, w0, t0⟩, ⟨_, rfl, o0⟩, ⟨_, rfl, AJ' rfl rfl⟩, t0⟩⟩⟩
  simp only [Cnd.holds, A2', Nat.blt_eq, true_and, and_true]
  and_intros
  all_goals first
   | exact A1' (ltFN (n0)) | (with_reducible first | exact t0 | exact r0 | exact A6' _ | assumption) | exact r0 | ((repeat (first | exact VW.nil | refine c1 ?_ | refine c2 ?_ | refine c3 ?_)); done)
end
noncomputable section
def cFg (w x : List UInt8) : List AV → Option (AP AV) := mkC gFe (fun _ => True) nm01 (fun _ => [.ptr 0 0, sB 1 x.length]) (fun _ => [(0, parO w), (1, rB x)]) (fun _ => .leaf .ret [.tuple []] [(0, parO (w ++ x)), (1, rB x)])
def cLf (w : List UInt8) : List AV → Option (AP AV) := mkC gP1 (fun _ => True) nm0 (fun _ => [.ptr 0 0]) (fun _ => [(0, parO w)]) (fun _ => .leaf .ret [iv (Int.ofNat w.length)] [(0, parO w)])
def cRNn (P : List UInt8) (off n s : Nat) : List AV → Option (AP AV) := mkC gRow (fun _ => True) nm0 (fun _ => [sO 0 off n]) (fun _ => [(0, rB1 P)]) (fun _ => .leaf .ret [nrV s] [(0, rB1 P)])
def cRNy (P : List UInt8) (off n k : Nat) (m t : ByteArray) (L : Hds) (B : List UInt8) : List AV → Option (AP AV) := mkC gRow (fun _ => True) nm0 (fun _ => [sO 0 off n]) (fun _ => [(0, rB1 P)]) (fun _ => .leaf .ret [.tuple [rqV m t (sP 1000 L.length) (sB 1001 B.length), bv true, iv (Int.ofNat 0), iv (Int.ofNat k)]] [(0, rB1 P), (1000, rP L), (1001, rB B)])
def cRNz (P : List UInt8) (off n k : Nat) (m t : ByteArray) (B : List UInt8) : List AV → Option (AP AV) := mkC gRow (fun _ => True) nm0 (fun _ => [sO 0 off n]) (fun _ => [(0, rB1 P)]) (fun _ => .leaf .ret [.tuple [rqV m t nilP (sB 1001 B.length), bv true, iv (Int.ofNat 0), iv (Int.ofNat k)]] [(0, rB1 P), (1001, rB B)])
def cSmN : List AV → Option (AP AV) := mkC (fun _ => .ret ()) (fun _ => True) (fun _ k => k) (fun _ => [rz0, rz0]) (fun _ => []) (fun _ => .leaf .ret [bv true] [])
def cSmY (m t : ByteArray) (L : Hds) (B : List UInt8) : List AV → Option (AP AV) := fun args => match args with
 | [.agg [a0, a1, .slice h1 a2 a3 a4 a5, .slice b1 a6 a7 a8 a9], .agg [c0, c1, .slice h2 c2 c3 c4 c5, .slice b2 c6 c7 c8 c9]] => some (.read h1 fun o1 => .read b1 fun o2 => .read h2 fun o3 => .read b2 fun o4 => .need ((o1 = rP L ∧ o2 = rB B ∧ o3 = rP L ∧ o4 = rB B) ∧ AV.agg [a0, a1, .slice h1 a2 a3 a4 a5, .slice b1 a6 a7 a8 a9] = rqV m t (sP h1 L.length) (sB b1 B.length) ∧ AV.agg [c0, c1, .slice h2 c2 c3 c4 c5, .slice b2 c6 c7 c8 c9] = rqV m t (sP h2 L.length) (sB b2 B.length)) (.ret (bv true)))
 | _ => some (.fail "same")
def cSmZ (m t : ByteArray) (B : List UInt8) : List AV → Option (AP AV) := fun args => match args with
 | [.agg [a0, a1, .v a2, .slice b1 a6 a7 a8 a9], .agg [c0, c1, .v c2, .slice b2 c6 c7 c8 c9]] => some (.read b1 fun o2 => .read b2 fun o4 => .need ((o2 = rB B ∧ o4 = rB B) ∧ AV.agg [a0, a1, .v a2, .slice b1 a6 a7 a8 a9] = rqV m t nilP (sB b1 B.length) ∧ AV.agg [c0, c1, .v c2, .slice b2 c6 c7 c8 c9] = rqV m t nilP (sB b2 B.length)) (.ret (bv true)))
 | _ => some (.fail "same")
def gSa : List AV → AP (Nat × (Nat × Nat)) := fun tmps => match getL tmps 3, getL tmps 4, getL tmps 7 with
 | .ptr p _, .slice q _ _ _ _, .slice x _ _ _ _ => .ret (x, (p, q))
 | _, _, _ => .fail "parses"
def nm3 (p : Nat × (Nat × Nat)) : Nat → Nat := fun k => match Nat.beq k 0 with
 | true => p.1
 | false => match Nat.beq k 1 with
  | true => p.2.1
  | false => match Nat.beq k 2 with
   | true => p.2.2
   | false => k
def nm4 (p : (Nat × (Nat × Nat)) × Nat) : Nat → Nat := fun k => match Nat.beq k 3 with
 | true => p.2
 | false => nm3 p.1 k
def nm4' (p : (Nat × (Nat × Nat)) × Nat) : Nat → Nat := fun k => match Nat.beq k 4 with
 | true => p.2
 | false => nm3 p.1 k
def nm5 (p : ((Nat × (Nat × Nat)) × Nat) × Nat) : Nat → Nat := fun k => match Nat.beq k 4 with
 | true => p.2
 | false => nm4 p.1 k
def lSa (b : AV) (x w P : List UInt8) (off n l i k : Nat) : List AV → AP (AX × List AV) := mkL gSa (fun _ => True) nm3 (fun _ => tms 0 119 (aSa b off n l i k 0)) (fun _ => oSa x w P) (fun _ => .leaf (.exit 2) (tms 0 119 (aPr b 1 2 off n l i)) [(1, parO w), (2, rB1 P)])
def gSbZ : List AV → AP ((Nat × (Nat × Nat)) × Nat) := fun tmps => match getL tmps 3, getL tmps 4, getL tmps 9 with
 | .ptr p _, .slice q _ _ _ _, .ptr r _ => .read r fun o => match o with
  | .cells [_, _, _, .slice b _ _ _ _] _ => .ret ((r, (p, q)), b)
  | _ => .fail "request"
 | _, _, _ => .fail "parses"
def gSbR : List AV → AP (((Nat × (Nat × Nat)) × Nat) × Nat) := fun tmps => match getL tmps 3, getL tmps 4, getL tmps 9 with
 | .ptr p _, .slice q _ _ _ _, .ptr r _ => .read r fun o => match o with
  | .cells [_, _, .slice h _ _ _ _, .slice b _ _ _ _] _ => .ret (((r, (p, q)), b), h)
  | _ => .fail "request"
 | _, _, _ => .fail "parses"
def gSc : List AV → AP ((Nat × (Nat × Nat)) × Nat) := fun tmps => match getL tmps 3, getL tmps 4, getL tmps 9 with
 | .ptr p _, .slice q _ _ _ _, .ptr r _ => .read r fun o => match o with
  | .cells [_, _, .slice h _ _ _ _, _] _ => .ret ((r, (p, q)), h)
  | _ => .fail "request"
 | _, _, _ => .fail "parses"
def lSbZ (b : AV) (m t : ByteArray) (x w P : List UInt8) (off n l i k : Nat) : List AV → AP (AX × List AV) := mkL gSbZ (fun _ => True) nm4 (fun _ => tms 0 119 (aSb b off n l i k 0)) (fun _ => oSbZ m t k x w P) (fun _ => .leaf (.exit 4) (tms 0 119 ((9, .ptr 0 0) :: aPr b 1 2 off n l i)) [(0, rqO m t nilP .any), (1, parO w), (2, rB1 P)])
def lSbR (b : AV) (m t : ByteArray) (L : Hds) (x w P : List UInt8) (off n l i k q : Nat) : List AV → AP (AX × List AV) := mkL gSbR (fun _ => True) nm5 (fun _ => tms 0 119 (aSb b off n l i k 0)) (fun _ => oSbR m t L k x w P) (fun _ => .leaf (.exit 4) (tms 0 119 ((9, .ptr 0 0) :: aPr b 1 2 off n l i)) [(0, rqO m t (sP 4 L.length) .any), (1, parO w), (2, rB1 P), (4, rP L)])
def lSc (b : AV) (m t : ByteArray) (L : Hds) (w P : List UInt8) (off n l i q : Nat) : List AV → AP (AX × List AV) := mkL gSc (fun _ => True) nm4' (fun _ => tms 0 119 (aSc b off n l i q 0)) (fun _ => oSc m t q L w P) (fun _ => .leaf (.exit 6) (tms 0 119 (aPr b 1 2 off n l i)) [(1, parO w), (2, rB1 P)])
def kPr : List Nat := [0, 1001, 1100, 1101, 1102, 1103, 1104, 1105, 1106, 1107]
def iPr : List Nat := [24, 3, 4, 25, 26]
def oPr (w P : List UInt8) : LH := [(0, parO w), (1001, rB1 P)]
def stA (sa : Addr) (l c : Nat) : AV := .v (.slice (some sa) l c)
def hPr (z : Int) (ch : Value) (i : Nat) (b : Bool) : List (Nat × Nat × Nat × Hint) := [(fPrs, 8, 0, hv (.lit true)), (fPrs, 9, 1, hv (.agg [iv z, .v ch])), (fPrs, 10, 3, hv (.lit b)), (fPrs, 36, 4, hv (.lit false)), (fPrs, 38, 0, hv (iv (Int.ofNat (i + 1))))]
noncomputable section
abbrev k184' (q0 : Int) : Cnd := ((p' (true = true)).a (f' (z' q0 = z' q0)))
abbrev k185' (q0 : Int) : Cnd := (f' (Wk (b' (IntKind.i64.wrap ↑(BitVec.ofInt 64 q0 &&& BitVec.ofInt 64 (Int.ofNat 1)).toNat == Int.ofNat 0)) j'))
abbrev k186' (q0 : List UInt8) (q1 q2 : Nat) : Cnd := (p' (OW (AO.cells (rowV encB q0) 11) (AO.cells (AV.rens (nm3 (q1,0,q2)) (rowV encB q0)) 11)))
end
theorem dU' (W : World) (sa ya : Addr) (l c n yc i off len : Nat) (z : Int) (w x P y : List UInt8) (F : HP) : AV' [(GH', cFg w x), (GG', cLf (w ++ x))] (AB' (hPr z (.slice (some ya) n yc) i true ++ [(fPrs, 11, 3, hvo (sB 1102 n) 1102 (rB x)), (fPrs, 13, 3, hvo (sO 1103 0 (len + n)) 1103 (rB1 y)), (fPrs, 14, 1, ht (tB x)), (fPrs, 14, 4, ht (tB x)), (fPrs, 14, 5, hv (.lit false))])) [(fPrs, 17, A4' fPrs 17, lSa (stA sa l c) x (w ++ x) y 0 (len + n) l i n)] W fPrs (A4' fPrs 8) (tms 0 119 (aPr (stA sa l c) 0 1001 off len l i)) (oPr w P) kPr iPr F = VT.leaf (AX.normal,[AV.v (Value.slice (some sa) l c),AV.ptr 0 0,AV.slice 1103 0 (len + n) 1 (Cp.lo (len + n)),i' l,i' (i + 1)],119) [some (AO.own Md.nothing (exHP (parR (w ++ x)) parL)),none,some (AO.cells [z' z,AV.v (Value.slice (some ya) n yc)] 56),some (AO.cells (rep [AV.v (Value.int IntKind.u8 (Int.ofNat 0))] 0) 10),none,some (AO.cells (AV.rens (sgN (nm3 (1102,0,1103)) [] 0) (rowV encB y)) 11),none,none,none,none] 1104 ((k1' i l).a ((k2' i l).a (((p' (([0,1].all fun j => (W.cell? ((sa.add (i * 2)).add j)).isSome) = true)).a ((p' ([AV.v ((W.cell? ((sa.add (i * 2)).add 0)).getD (Value.tuple (Array.mk []))),AV.v ((W.cell? (Addr.mk (sa.add (i * 2)).block ((sa.add (i * 2)).off + 1) none)).getD (Value.tuple (Array.mk [])))] = [AV.v (Value.int IntKind.i64 (AV.v ((W.cell? ((sa.add (i * 2)).add 0)).getD (Value.tuple (Array.mk [])))).intOf),AV.v ((W.cell? (Addr.mk (sa.add (i * 2)).block ((sa.add (i * 2)).off + 1) none)).getD (Value.tuple (Array.mk [])))])).a (f' (Wk (AV.agg [AV.v (Value.int IntKind.i64 (AV.v ((W.cell? ((sa.add (i * 2)).add 0)).getD (Value.tuple (Array.mk [])))).intOf),AV.v ((W.cell? (Addr.mk (sa.add (i * 2)).block ((sa.add (i * 2)).off + 1) none)).getD (Value.tuple (Array.mk [])))]) (AV.agg [z' z,AV.v (Value.slice (some ya) n yc)]))))).a (k12'.a ((k184' z).a ((k185' z).a (k12'.a (((p' (n.ble n = true)).a ((p' (((List.range (n * 1)).all fun j => (W.cell? (ya.add j)).isSome) = true)).a ((p' ((vmap (BG' W ya (n * 1))).all AV.one = true)).a ((p' (Nat.blt 0 n = true)).a ((p' (true = true)).a ((p' (((0 + n) * 1).ble 140737488355328 = true)).a ((p' ((0 + n).ble 9223372036854775807 = true)).a ((p' (true = true)).a ((p' (Nat.blt 0 (0 + n) = true)).a ((p' (OW (AO.cells ([] ++ vmap (BG' W ya (n * 1))) 10) (AO.cells (rowV encB x) 10))).a (f' (Wk (AV.slice 1102 0 (0 + n) 1 (Cp.lo (0 + n))) (AV.slice 1102 0 n 1 (Cp.lo n)))))))))))))).a (((Cnd.p True).a ((p' (VW [AV.ptr 0 0,AV.slice 1102 0 n 1 (Cp.lo n)] [AV.ptr 0 0,AV.slice 1102 0 x.length 1 (Cp.lo x.length)])).a ((p' (OW (AO.own Md.nothing (exHP (parR w) parL)) (AO.own Md.nothing (exHP (parR w) parL)))).a (f' (OW (AO.cells (rowV encB x) 10) (AO.cells (AV.rens (nm01 (0,1102)) (rowV encB x)) 10)))))).a (k12'.a (((p' (n.ble n = true)).a ((p' (((List.range (n * 1)).all fun j => (W.cell? (ya.add j)).isSome) = true)).a ((p' ((vmap (BG' W ya (n * 1))).all AV.one = true)).a ((p' (Nat.blt 0 n = true)).a ((p' ((off + len * 1).ble (rowV encB P).length = true)).a ((p' (((len + n) * 1).ble 140737488355328 = true)).a ((p' ((len + n).ble 9223372036854775807 = true)).a ((p' ((List.take (len * 1) (List.drop off (rowV encB P))).length.beq (len * 1) = true)).a ((p' (OW (AO.cells (List.take (len * 1) (List.drop off (rowV encB P)) ++ vmap (BG' W ya (n * 1))) (MX' off 11)) (AO.cells (rowV encB y) 11))).a (f' (Wk (AV.slice 1103 0 (len + n) 1 (Cp.lo (len + n))) (AV.slice 1103 0 (len + n) 1 (Cp.lo (len + n)))))))))))))).a ((f' (0 + n ≤ (AV.rens (sgN (nm01 (0,1102)) [] 0) (rowV encB x)).length ∧ List.take n (List.drop 0 (AV.rens (sgN (nm01 (0,1102)) [] 0) (rowV encB x))) = vmap (List.map (fun b => Value.int IntKind.u8 ↑b.toNat) x))).a (k12'.a ((f' ((tB x).size = n ∧ ∀ (j : Nat),j < (tB x).size → (envW [(GH',cFg w x),(GG',cLf (w ++ x))] (AB' (hPr z (Value.slice (some ya) n yc) i true ++ [(fPrs,11,3,hvo (sB 1102 n) 1102 (rB x)),(fPrs,13,3,hvo (sO 1103 0 (len + n)) 1103 (rB1 y)),(fPrs,14,1,ht (tB x)),(fPrs,14,4,ht (tB x)),(fPrs,14,5,hv g')])) [(fPrs,17,A4' fPrs 17,lSa (stA sa l c) x (w ++ x) y 0 (len + n) l i n)] W F).W.cell? (ya.add j) = some (Value.int IntKind.u8 ↑((tB x).data.toList.getD j 0).toNat))).a ((f' (Wk (AV.v (Value.bool !(tB x).toList == (tB x).toList)) g')).a ((p' ((fPrs,17,A4' fPrs 17,lSa (stA sa l c) x (w ++ x) y 0 (len + n) l i n).snd.snd.fst = (fPrs,17,A4' fPrs 17,lSa (stA sa l c) x (w ++ x) y 0 (len + n) l i n).snd.snd.fst)).a (k15'.a ((p' (VW (a'::a'::a'::AV.ptr 0 0::AV.slice 1103 0 (len + n) 1 (Cp.lo (len + n))::a'::AV.ptr 1100 0::AV.slice 1102 0 n 1 (Cp.lo n)::ra16 (AV.v (Value.slice (some sa) l c)::i' l::i' i::j'::AV.v (Value.pointer (some (sa.add (i * 2))))::AV.agg [z' z,AV.v (Value.slice (some ya) n yc)]::AV.ptr 1100 0::z' z::z' (IntKind.i64.wrap ↑(BitVec.ofInt 64 z &&& BitVec.ofInt 64 (Int.ofNat 1)).toNat)::j'::AV.slice 1101 0 0 1 (Cp.ex 0)::AV.ptr 1100 1::AV.v (Value.slice (some ya) n yc)::AV.slice 1102 0 n 1 (Cp.lo n)::AV.ptr 0 0::AV.slice 1102 0 n 1 (Cp.lo n)::AV.tuple []::AV.slice 1001 off len 1 (Cp.lo len)::AV.ptr 1100 1::AV.v (Value.slice (some ya) n yc)::AV.slice 1103 0 (len + n) 1 (Cp.lo (len + n))::AV.slice 1102 0 n 1 (Cp.lo n)::s' (tB x)::AV.ptr 1100 1::AV.v (Value.slice (some ya) n yc)::s' (tB x)::g'::AV.slice 1102 0 n 1 (Cp.lo n)::z' ↑n::i' 0::ra16 (ra16 (ra16 (ra16 (a'::[])))))) (a'::a'::a'::AV.ptr 0 0::AV.slice 1103 0 (len + n) 1 (Cp.lo (len + n))::a'::a'::AV.slice 1102 0 n 1 (Cp.lo n)::ra16 (AV.v (Value.slice (some sa) l c)::i' l::i' i::ra16 (ra8 (a'::i' n::i' 0::ra16 (ra16 (ra16 (ra16 (a'::[])))))))))).a ((p' (OW (AO.cells (AV.rens (sgN (nm01 (0,1102)) [] 0) (rowV encB x)) 10) (AO.cells (AV.rens (nm3 (1102,0,1103)) (rowV encB x)) 10))).a ((p' (OW (AO.own Md.nothing (exHP (parR (w ++ x)) parL)) (AO.own Md.nothing (exHP (parR (w ++ x)) parL)))).a ((k186' y 1102 1103).a (((Cnd.p True).a ((p' (VW [AV.ptr 0 0] [AV.ptr 0 0])).a (f' (OW (AO.own Md.nothing (exHP (parR (w ++ x)) parL)) (AO.own Md.nothing (exHP (parR (w ++ x)) parL)))))).a ((f' (Wk (b' (Int.ofNat (w ++ x).length != ↑(len + n))) g')).a ((k6' i).a t')))))))))))))))))))))))) := by kernel_rfl
noncomputable section
abbrev k187' (q0 : Nat) (q1 : List UInt8) : Cnd := ((p' True).a ((p' (VW [AV.ptr 0 0,AV.slice q0 0 0 1 (Cp.ex 0)] [AV.ptr 0 0,AV.slice q0 0 0 1 (Cp.lo 0)])).a ((p' (OW (AO.own Md.nothing (exHP (parR q1) parL)) (AO.own Md.nothing (exHP (parR q1) parL)))).a (f' (OW (AO.cells (rep [AV.v (Value.int IntKind.u8 (Int.ofNat 0))] 0) 10) (AO.cells [] 10))))))
abbrev k188' (q0 : List UInt8) : Cnd := (p' (OW (AO.own Md.nothing (exHP (parR (q0 ++ [])) parL)) (AO.own Md.nothing (exHP (parR (q0 ++ [])) parL))))
abbrev k189' (q0 : List UInt8) : Cnd := ((p' True).a ((p' (VW [AV.ptr 0 0] [AV.ptr 0 0])).a (f' (OW (AO.own Md.nothing (exHP (parR (q0 ++ [])) parL)) (AO.own Md.nothing (exHP (parR (q0 ++ [])) parL))))))
end
theorem dV' (W : World) (sa ya : Addr) (l c yc i off len : Nat) (z : Int) (w P : List UInt8) (F : HP) : AV' [(GH', cFg w []), (GG', cLf (w ++ []))] (AB' (hPr z (.slice (some ya) 0 yc) i true ++ [(fPrs, 11, 3, h0), (fPrs, 13, 3, h0), (fPrs, 14, 1, ht nil0), (fPrs, 14, 4, ht nil0), (fPrs, 14, 5, hv (.lit false))])) [(fPrs, 17, A4' fPrs 17, lSa (stA sa l c) [] (w ++ []) P off len l i 0)] W fPrs (A4' fPrs 8) (tms 0 119 (aPr (stA sa l c) 0 1001 off len l i)) (oPr w P) kPr iPr F = VT.leaf (AX.normal,[AV.v (Value.slice (some sa) l c),AV.ptr 0 0,AV.slice 1001 off len 1 (Cp.lo len),i' l,i' (i + 1)],119) [some (AO.own Md.nothing (exHP (parR (w ++ [])) parL)),some (AO.cells (AV.rens (sgN (nm3 (1101,0,1001)) [] 0) (rowV encB P)) 11),some (AO.cells [z' z,AV.v (Value.slice (some ya) 0 yc)] 56),none,none,none,none,none,none,none] 1102 ((k1' i l).a ((k2' i l).a (((p' (([0,1].all fun j => (W.cell? ((sa.add (i * 2)).add j)).isSome) = true)).a ((p' ([AV.v ((W.cell? ((sa.add (i * 2)).add 0)).getD (Value.tuple (Array.mk []))),AV.v ((W.cell? (Addr.mk (sa.add (i * 2)).block ((sa.add (i * 2)).off + 1) none)).getD (Value.tuple (Array.mk [])))] = [AV.v (Value.int IntKind.i64 (AV.v ((W.cell? ((sa.add (i * 2)).add 0)).getD (Value.tuple (Array.mk [])))).intOf),AV.v ((W.cell? (Addr.mk (sa.add (i * 2)).block ((sa.add (i * 2)).off + 1) none)).getD (Value.tuple (Array.mk [])))])).a (f' (Wk (AV.agg [AV.v (Value.int IntKind.i64 (AV.v ((W.cell? ((sa.add (i * 2)).add 0)).getD (Value.tuple (Array.mk [])))).intOf),AV.v ((W.cell? (Addr.mk (sa.add (i * 2)).block ((sa.add (i * 2)).off + 1) none)).getD (Value.tuple (Array.mk [])))]) (AV.agg [z' z,AV.v (Value.slice (some ya) 0 yc)]))))).a (k12'.a ((k184' z).a ((k185' z).a (k12'.a (k180'.a ((k187' 1101 w).a (k12'.a (k180'.a ((f' (0 ≤ 0 ∧ ([] : List AV) = [])).a (k12'.a ((f' (0 = 0 ∧ ∀ (j : Nat),j < nil0.size → (envW [(GH',cFg w []),(GG',cLf (w ++ []))] (AB' (hPr z (Value.slice (some ya) 0 yc) i true ++ [(fPrs,11,3,h0),(fPrs,13,3,h0),(fPrs,14,1,ht nil0),(fPrs,14,4,ht nil0),(fPrs,14,5,hv g')])) [(fPrs,17,A4' fPrs 17,lSa (stA sa l c) [] (w ++ []) P off len l i 0)] W F).W.cell? (ya.add j) = some (Value.int IntKind.u8 ↑(nil0.data.toList.getD j 0).toNat))).a (k18'.a ((p' ((fPrs,17,A4' fPrs 17,lSa (stA sa l c) [] (w ++ []) P off len l i 0).snd.snd.fst = (fPrs,17,A4' fPrs 17,lSa (stA sa l c) [] (w ++ []) P off len l i 0).snd.snd.fst)).a (k15'.a ((p' (VW (a'::a'::a'::AV.ptr 0 0::AV.slice 1001 off len 1 (Cp.lo len)::a'::AV.ptr 1100 0::AV.slice 1101 0 0 1 (Cp.ex 0)::ra16 (AV.v (Value.slice (some sa) l c)::i' l::i' i::j'::AV.v (Value.pointer (some (sa.add (i * 2))))::AV.agg [z' z,AV.v (Value.slice (some ya) 0 yc)]::AV.ptr 1100 0::z' z::z' (IntKind.i64.wrap ↑(BitVec.ofInt 64 z &&& BitVec.ofInt 64 (Int.ofNat 1)).toNat)::j'::AV.slice 1101 0 0 1 (Cp.ex 0)::AV.ptr 1100 1::AV.v (Value.slice (some ya) 0 yc)::AV.slice 1101 0 0 1 (Cp.ex 0)::AV.ptr 0 0::AV.slice 1101 0 0 1 (Cp.ex 0)::AV.tuple []::AV.slice 1001 off len 1 (Cp.lo len)::AV.ptr 1100 1::AV.v (Value.slice (some ya) 0 yc)::AV.slice 1001 off len 1 (Cp.lo len)::AV.slice 1101 0 0 1 (Cp.ex 0)::s' nil0::AV.ptr 1100 1::AV.v (Value.slice (some ya) 0 yc)::s' nil0::g'::AV.slice 1101 0 0 1 (Cp.ex 0)::i' 0::i' 0::ra16 (ra16 (ra16 (ra16 (a'::[])))))) (a'::a'::a'::AV.ptr 0 0::AV.slice 1001 off len 1 (Cp.lo len)::a'::a'::AV.slice 1101 0 0 1 (Cp.lo 0)::ra16 (AV.v (Value.slice (some sa) l c)::i' l::i' i::ra16 (ra8 (a'::i' 0::i' 0::ra16 (ra16 (ra16 (ra16 (a'::[])))))))))).a ((p' (OW (AO.cells [] 10) (AO.cells [] 10))).a ((k188' w).a ((k186' P 1101 1001).a ((k189' w).a ((f' (Wk (b' (Int.ofNat (w ++ []).length != ↑len)) g')).a ((k6' i).a t')))))))))))))))))))))))) := by kernel_rfl
theorem dT' (W : World) (sa : Addr) (l c yc i off len : Nat) (z : Int) (w P : List UInt8) (F : HP) : AV' [(GH', cFg w []), (GG', cLf (w ++ []))] (AB' (hPr z (.slice none 0 yc) i true ++ [(fPrs, 11, 3, h0), (fPrs, 13, 3, h0), (fPrs, 14, 1, ht nil0), (fPrs, 14, 4, ht nil0), (fPrs, 14, 5, hv (.lit false))])) [(fPrs, 17, A4' fPrs 17, lSa (stA sa l c) [] (w ++ []) P off len l i 0)] W fPrs (A4' fPrs 8) (tms 0 119 (aPr (stA sa l c) 0 1001 off len l i)) (oPr w P) kPr iPr F = VT.leaf (AX.normal,[AV.v (Value.slice (some sa) l c),AV.ptr 0 0,AV.slice 1001 off len 1 (Cp.lo len),i' l,i' (i + 1)],119) [some (AO.own Md.nothing (exHP (parR (w ++ [])) parL)),some (AO.cells (AV.rens (sgN (nm3 (1101,0,1001)) [] 0) (rowV encB P)) 11),some (AO.cells [z' z,AV.v (Value.slice none 0 yc)] 56),none,none,none,none,none,none,none] 1102 ((k1' i l).a ((k2' i l).a (((p' (([0,1].all fun j => (W.cell? ((sa.add (i * 2)).add j)).isSome) = true)).a ((p' ([AV.v ((W.cell? ((sa.add (i * 2)).add 0)).getD (Value.tuple (Array.mk []))),AV.v ((W.cell? (Addr.mk (sa.add (i * 2)).block ((sa.add (i * 2)).off + 1) none)).getD (Value.tuple (Array.mk [])))] = [AV.v (Value.int IntKind.i64 (AV.v ((W.cell? ((sa.add (i * 2)).add 0)).getD (Value.tuple (Array.mk [])))).intOf),AV.v ((W.cell? (Addr.mk (sa.add (i * 2)).block ((sa.add (i * 2)).off + 1) none)).getD (Value.tuple (Array.mk [])))])).a (f' (Wk (AV.agg [AV.v (Value.int IntKind.i64 (AV.v ((W.cell? ((sa.add (i * 2)).add 0)).getD (Value.tuple (Array.mk [])))).intOf),AV.v ((W.cell? (Addr.mk (sa.add (i * 2)).block ((sa.add (i * 2)).off + 1) none)).getD (Value.tuple (Array.mk [])))]) (AV.agg [z' z,AV.v (Value.slice none 0 yc)]))))).a (k12'.a ((k184' z).a ((k185' z).a (k12'.a (k180'.a ((k187' 1101 w).a (k12'.a (k180'.a ((f' (0 ≤ 0 ∧ ([] : List AV) = [])).a (k12'.a (k182'.a (k18'.a ((p' ((fPrs,17,A4' fPrs 17,lSa (stA sa l c) [] (w ++ []) P off len l i 0).snd.snd.fst = (fPrs,17,A4' fPrs 17,lSa (stA sa l c) [] (w ++ []) P off len l i 0).snd.snd.fst)).a (k15'.a ((p' (VW (a'::a'::a'::AV.ptr 0 0::AV.slice 1001 off len 1 (Cp.lo len)::a'::AV.ptr 1100 0::AV.slice 1101 0 0 1 (Cp.ex 0)::ra16 (AV.v (Value.slice (some sa) l c)::i' l::i' i::j'::AV.v (Value.pointer (some (sa.add (i * 2))))::AV.agg [z' z,AV.v (Value.slice none 0 yc)]::AV.ptr 1100 0::z' z::z' (IntKind.i64.wrap ↑(BitVec.ofInt 64 z &&& BitVec.ofInt 64 (Int.ofNat 1)).toNat)::j'::AV.slice 1101 0 0 1 (Cp.ex 0)::AV.ptr 1100 1::AV.v (Value.slice none 0 yc)::AV.slice 1101 0 0 1 (Cp.ex 0)::AV.ptr 0 0::AV.slice 1101 0 0 1 (Cp.ex 0)::AV.tuple []::AV.slice 1001 off len 1 (Cp.lo len)::AV.ptr 1100 1::AV.v (Value.slice none 0 yc)::AV.slice 1001 off len 1 (Cp.lo len)::AV.slice 1101 0 0 1 (Cp.ex 0)::s' nil0::AV.ptr 1100 1::AV.v (Value.slice none 0 yc)::s' nil0::g'::AV.slice 1101 0 0 1 (Cp.ex 0)::i' 0::i' 0::ra16 (ra16 (ra16 (ra16 (a'::[])))))) (a'::a'::a'::AV.ptr 0 0::AV.slice 1001 off len 1 (Cp.lo len)::a'::a'::AV.slice 1101 0 0 1 (Cp.lo 0)::ra16 (AV.v (Value.slice (some sa) l c)::i' l::i' i::ra16 (ra8 (a'::i' 0::i' 0::ra16 (ra16 (ra16 (ra16 (a'::[])))))))))).a ((p' (OW (AO.cells [] 10) (AO.cells [] 10))).a ((k188' w).a ((k186' P 1101 1001).a ((k189' w).a ((f' (Wk (b' (Int.ofNat (w ++ []).length != ↑len)) g')).a ((k6' i).a t')))))))))))))))))))))))) := by kernel_rfl
def hNe : List (Nat × Nat × Nat × Hint) := [(fPrs, 23, 2, hv (.lit false)), (fPrs, 23, 6, hv (.lit false)), (fPrs, 23, 12, hv (.lit false))]
noncomputable section
abbrev k190' (q0 : World) (q1 : Addr) (q2 : Nat) (q3 : Int) (q4 : Option Addr) (q5 q6 : Nat) : Cnd := ((p' (([0,1].all fun j => (q0.cell? ((q1.add (q2 * 2)).add j)).isSome) = true)).a ((p' ([AV.v ((q0.cell? ((q1.add (q2 * 2)).add 0)).getD (Value.tuple (Array.mk []))),AV.v ((q0.cell? (Addr.mk (q1.add (q2 * 2)).block ((q1.add (q2 * 2)).off + 1) none)).getD (Value.tuple (Array.mk [])))] = [AV.v (Value.int IntKind.i64 (AV.v ((q0.cell? ((q1.add (q2 * 2)).add 0)).getD (Value.tuple (Array.mk [])))).intOf),AV.v ((q0.cell? (Addr.mk (q1.add (q2 * 2)).block ((q1.add (q2 * 2)).off + 1) none)).getD (Value.tuple (Array.mk [])))])).a (f' (Wk (AV.agg [AV.v (Value.int IntKind.i64 (AV.v ((q0.cell? ((q1.add (q2 * 2)).add 0)).getD (Value.tuple (Array.mk [])))).intOf),AV.v ((q0.cell? (Addr.mk (q1.add (q2 * 2)).block ((q1.add (q2 * 2)).off + 1) none)).getD (Value.tuple (Array.mk [])))]) (AV.agg [z' q3,AV.v (Value.slice q4 q5 q6)])))))
abbrev k191' (q0 : Int) : Cnd := (f' (Wk (b' (IntKind.i64.wrap ↑(BitVec.ofInt 64 q0 &&& BitVec.ofInt 64 (Int.ofNat 1)).toNat == Int.ofNat 0)) g'))
abbrev k192' (q0 : List UInt8) : Cnd := ((p' True).a ((p' (VW [AV.ptr 0 0] [AV.ptr 0 0])).a (f' (OW (AO.own Md.nothing (exHP (parR q0) parL)) (AO.own Md.nothing (exHP (parR q0) parL))))))
abbrev k193' (q0 q1 q2 : Nat) (q3 : List UInt8) : Cnd := ((p' True).a ((p' (VW [AV.slice q0 q1 q2 1 (Cp.lo q2)] [AV.slice q0 q1 q2 1 (Cp.lo q2)])).a (f' (OW (AO.cells (rowV encB q3) 11) (AO.cells (AV.rens (nm0 q0) (rowV encB q3)) 11)))))
end
theorem dS' (W : World) (sa : Addr) (l c i off len s : Nat) (z : Int) (ca : Option Addr) (cn cc : Nat) (w P : List UInt8) (F : HP) : AV' [(AK', cNxN w s), (fRNx, cRNn P off len s), (fSm, cSmN), (GG', cLf w)] (AB' (hPr z (.slice ca cn cc) i false ++ hNe ++ [(fPrs, 27, 0, hv (.lit false)), (fPrs, 32, 0, hv (.lit false))])) [] W fPrs (A4' fPrs 8) (tms 0 119 (aPr (stA sa l c) 0 1001 off len l i)) (oPr w P) kPr iPr F = VT.leaf (AX.normal,[AV.v (Value.slice (some sa) l c),AV.ptr 0 0,AV.slice 1001 off len 1 (Cp.lo len),i' l,i' (i + 1)],119) [some (AO.own Md.nothing (exHP (parR w) parL)),some (AO.cells (AV.rens (sgN (nm0 1001) [] 0) (rowV encB P)) 11),some (AO.cells [z' z,AV.v (Value.slice ca cn cc)] 56),some (AO.cells [s' nil0,s' nil0,e',e'] 64),some (AO.cells [s' nil0,s' nil0,e',e'] 64),none,none,none,none,none] 1103 ((k1' i l).a ((k2' i l).a ((k190' W sa i z ca cn cc).a (k12'.a ((k184' z).a ((k191' z).a ((k192' w).a (k12'.a ((k193' 1001 off len P).a (k12'.a (k18'.a ((f' (Wk (b' (Int.ofNat s != Int.ofNat s)) g')).a (k157'.a (k157'.a (((Cnd.p True).a (f' (VW [AV.agg [s' nil0,s' nil0,e',e'],AV.agg [s' nil0,s' nil0,e',e']] [AV.agg [s' nil0,s' nil0,e',e'],AV.agg [s' nil0,s' nil0,e',e']]))).a (k18'.a (((p' (true = true)).a ((p' (len.ble len = true)).a (f' (len.ble len = true)))).a (k12'.a (k18'.a (k12'.a (k18'.a ((k192' w).a ((f' (Wk (b' (Int.ofNat w.length != ↑len)) g')).a ((k6' i).a t')))))))))))))))))))))))) := by kernel_rfl
noncomputable section
abbrev k194' (q0 q1 : ByteArray) (q2 : Nat) (q3 : List UInt8) : Cnd := ((p' (true = true)).a (f' ([s' q0,s' q1,e',AV.slice q2 0 q3.length 1 (Cp.lo q3.length)] = [s' q0,s' q1,e',AV.slice q2 0 q3.length 1 (Cp.lo q3.length)])))
abbrev k195' (q0 : List UInt8) : Cnd := (p' (OW (AO.own Md.nothing (exHP (parR q0) parL)) (AO.own Md.nothing (exHP (parR q0) parL))))
end
theorem dQ' (W : World) (sa : Addr) (l c i off len k kb : Nat) (z : Int) (ca : Option Addr) (cn cc : Nat) (m t : ByteArray) (B w w' P : List UInt8) (F : HP) : AV' [(AK', cNxZ w w' m t B), (fRNx, cRNz P off len k m t B), (fSm, cSmZ m t B), (GG', cLf w')] (AB' (hPr z (.slice ca cn cc) i false ++ hNe ++ [(fPrs, 32, 0, hv (.lit false))])) [(fPrs, 27, A4' fPrs 27, lSbZ (stA sa l c) m t B w' P (off + k) (len - k) l i kb)] W fPrs (A4' fPrs 8) (tms 0 119 (aPr (stA sa l c) 0 1001 off len l i)) (oPr w P) kPr iPr F = VT.leaf (AX.normal,[AV.v (Value.slice (some sa) l c),AV.ptr 0 0,AV.slice 1001 (off + k) (len - k) 1 (Cp.lo (len - k)),i' l,i' (i + 1)],119) [some (AO.own Md.nothing (exHP (parR w') parL)),some (AO.cells (AV.rens (sgN (nm4 ((1102,0,1001),1101)) [] 0) (rowV encB P)) 11),some (AO.cells [z' z,AV.v (Value.slice ca cn cc)] 56),none,some (AO.cells [s' m,s' t,e',a'] 64),some (AO.cells (AV.rens (sgN (nm0 1001) [1001] 1103) (rowV encB B)) 10),some (AO.cells [s' m,s' t,e',AV.slice 1103 0 B.length 1 (Cp.lo B.length)] 64),none,none,none] 1105 ((k1' i l).a ((k2' i l).a ((k190' W sa i z ca cn cc).a (k12'.a ((k184' z).a ((k191' z).a ((k192' w).a (k12'.a ((k193' 1001 off len P).a (k12'.a (k18'.a (k18'.a ((k194' m t 1101 B).a ((k194' m t 1103 B).a ((f' ((AO.cells (AV.rens (sgN (nm0 0) [1001] 1101) (rowV encB B)) 10 = AO.cells (rowV encB B) 10 ∧ AO.cells (AV.rens (sgN (nm0 1001) [1001] 1103) (rowV encB B)) 10 = AO.cells (rowV encB B) 10) ∧ AV.agg [s' m,s' t,e',AV.slice 1101 0 B.length 1 (Cp.lo B.length)] = AV.agg [s' m,s' t,e',AV.slice 1101 0 B.length 1 (Cp.lo B.length)] ∧ AV.agg [s' m,s' t,e',AV.slice 1103 0 B.length 1 (Cp.lo B.length)] = AV.agg [s' m,s' t,e',AV.slice 1103 0 B.length 1 (Cp.lo B.length)])).a (k18'.a ((k98' k len).a (k12'.a ((p' ((fPrs,27,A4' fPrs 27,lSbZ (stA sa l c) m t B w' P (off + k) (len - k) l i kb).snd.snd.fst = (fPrs,27,A4' fPrs 27,lSbZ (stA sa l c) m t B w' P (off + k) (len - k) l i kb).snd.snd.fst)).a (k15'.a ((p' (VW (a'::a'::a'::AV.ptr 0 0::AV.slice 1001 (off + k * 1) (len - k) 1 (Cp.lo (len - k))::a'::AV.ptr 1100 0::a'::a'::AV.ptr 1102 0::b' true::i' 0::AV.ptr 1104 0::b' true::i' 0::i' k::ra8 (AV.v (Value.slice (some sa) l c)::i' l::i' i::j'::AV.v (Value.pointer (some (sa.add (i * 2))))::AV.agg [z' z,AV.v (Value.slice ca cn cc)]::AV.ptr 1100 0::z' z::z' (IntKind.i64.wrap ↑(BitVec.ofInt 64 z &&& BitVec.ofInt 64 (Int.ofNat 1)).toNat)::g'::ra16 (ra8 (a'::a'::AV.tuple [AV.agg [s' m,s' t,e',AV.slice 1101 0 B.length 1 (Cp.lo B.length)],b' true,i' 0]::AV.ptr 0 0::AV.tuple [AV.agg [s' m,s' t,e',AV.slice 1101 0 B.length 1 (Cp.lo B.length)],b' true,i' 0]::AV.agg [s' m,s' t,e',AV.slice 1101 0 B.length 1 (Cp.lo B.length)]::b' true::i' 0::AV.tuple [AV.agg [s' m,s' t,e',AV.slice 1103 0 B.length 1 (Cp.lo B.length)],b' true,i' 0,i' k]::AV.slice 1001 off len 1 (Cp.lo len)::AV.tuple [AV.agg [s' m,s' t,e',AV.slice 1103 0 B.length 1 (Cp.lo B.length)],b' true,i' 0,i' k]::AV.agg [s' m,s' t,e',AV.slice 1103 0 B.length 1 (Cp.lo B.length)]::b' true::i' 0::i' k::b' true::b' true::g'::g'::i' 0::i' 0::g'::g'::g'::AV.agg [s' m,s' t,e',AV.slice 1101 0 B.length 1 (Cp.lo B.length)]::AV.agg [s' m,s' t,e',AV.slice 1103 0 B.length 1 (Cp.lo B.length)]::b' true::g'::g'::AV.slice 1001 off len 1 (Cp.lo len)::i' k::AV.slice 1001 (off + k * 1) (len - k) 1 (Cp.lo (len - k))::AV.ptr 1102 3::AV.slice 1101 0 B.length 1 (Cp.lo B.length)::z' ↑B.length::i' 0::ra16 (ra8 (a'::[])))))) (a'::a'::a'::AV.ptr 0 0::AV.slice 1001 (off + k) (len - k) 1 (Cp.lo (len - k))::ra4 (AV.ptr 1102 0::ra8 (ra4 (a'::a'::AV.v (Value.slice (some sa) l c)::i' l::i' i::ra16 (ra16 (ra16 (ra16 (a'::i' kb::i' 0::ra16 (ra8 (a'::[])))))))))))).a ((p' (OW (AO.cells [s' m,s' t,e',AV.slice 1101 0 B.length 1 (Cp.lo B.length)] 64) (AO.cells [s' m,s' t,e',AV.slice 1101 0 kb 1 (Cp.lo kb)] 64))).a ((k195' w').a ((p' (OW (AO.cells (AV.rens (sgN (nm0 1001) [1001] 1103) (rowV encB P)) 11) (AO.cells (AV.rens (nm4 ((1102,0,1001),1101)) (rowV encB P)) 11))).a ((p' (OW (AO.cells (AV.rens (sgN (nm0 0) [1001] 1101) (rowV encB B)) 10) (AO.cells (AV.rens (nm4 ((1102,0,1001),1101)) (rowV encB B)) 10))).a (k12'.a (k18'.a ((k192' w').a ((f' (Wk (b' (Int.ofNat w'.length != ↑(len - k))) g')).a ((k6' i).a t')))))))))))))))))))))))))))))) := by kernel_rfl
noncomputable section
abbrev k196' (q0 q1 : ByteArray) (q2 : Nat) (q3 : Hds) (q4 : Nat) (q5 : List UInt8) : Cnd := ((p' (true = true)).a (f' ([s' q0,s' q1,AV.slice q2 0 (List.length q3) 2 (Cp.lo (List.length q3)),AV.slice q4 0 q5.length 1 (Cp.lo q5.length)] = [s' q0,s' q1,AV.slice q2 0 (List.length q3) 2 (Cp.lo (List.length q3)),AV.slice q4 0 q5.length 1 (Cp.lo q5.length)])))
end
theorem dR' (W : World) (sa : Addr) (l c i off len k kb kl : Nat) (z : Int) (ca : Option Addr) (cn cc : Nat) (m t : ByteArray) (L : Hds) (B w w' P : List UInt8) (F : HP) : AV' [(AK', cNxY w w' m t L B), (fRNx, cRNy P off len k m t L B), (fSm, cSmY m t L B), (GG', cLf w')] (AB' (hPr z (.slice ca cn cc) i false ++ hNe)) [(fPrs, 27, A4' fPrs 27, lSbR (stA sa l c) m t L B w' P (off + k) (len - k) l i kb kl), (fPrs, 32, A4' fPrs 32, lSc (stA sa l c) m t L w' P (off + k) (len - k) l i kl)] W fPrs (A4' fPrs 8) (tms 0 119 (aPr (stA sa l c) 0 1001 off len l i)) (oPr w P) kPr iPr F = VT.leaf (AX.normal,[AV.v (Value.slice (some sa) l c),AV.ptr 0 0,AV.slice 1001 (off + k) (len - k) 1 (Cp.lo (len - k)),i' l,i' (i + 1)],119) [some (AO.own Md.nothing (exHP (parR w') parL)),some (AO.cells (AV.rens (sgN (nm4' ((1103,0,1001),1101)) [] 0) (rowV encB P)) 11),some (AO.cells [z' z,AV.v (Value.slice ca cn cc)] 56),none,none,none,some (AO.cells (AV.rens (sgN (nm0 1001) [1000,1001] 1104) (rowV encP L)) 78),some (AO.cells (AV.rens (sgN (nm0 1001) [1000,1001] 1104) (rowV encB B)) 10),some (AO.cells [s' m,s' t,AV.slice 1104 0 (List.length L) 2 (Cp.lo (List.length L)),AV.slice 1105 0 B.length 1 (Cp.lo B.length)] 64),none] 1107 ((k1' i l).a ((k2' i l).a ((k190' W sa i z ca cn cc).a (k12'.a ((k184' z).a ((k191' z).a ((k192' w).a (k12'.a ((k193' 1001 off len P).a (k12'.a (k18'.a (k18'.a ((k196' m t 1101 L 1102 B).a ((k196' m t 1104 L 1105 B).a ((f' ((AO.cells (AV.rens (sgN (nm0 0) [1000,1001] 1101) (rowV encP L)) 78 = AO.cells (rowV encP L) 78 ∧ AO.cells (AV.rens (sgN (nm0 0) [1000,1001] 1101) (rowV encB B)) 10 = AO.cells (rowV encB B) 10 ∧ AO.cells (AV.rens (sgN (nm0 1001) [1000,1001] 1104) (rowV encP L)) 78 = AO.cells (rowV encP L) 78 ∧ AO.cells (AV.rens (sgN (nm0 1001) [1000,1001] 1104) (rowV encB B)) 10 = AO.cells (rowV encB B) 10) ∧ AV.agg [s' m,s' t,AV.slice 1101 0 (List.length L) 2 (Cp.lo (List.length L)),AV.slice 1102 0 B.length 1 (Cp.lo B.length)] = AV.agg [s' m,s' t,AV.slice 1101 0 (List.length L) 2 (Cp.lo (List.length L)),AV.slice 1102 0 B.length 1 (Cp.lo B.length)] ∧ AV.agg [s' m,s' t,AV.slice 1104 0 (List.length L) 2 (Cp.lo (List.length L)),AV.slice 1105 0 B.length 1 (Cp.lo B.length)] = AV.agg [s' m,s' t,AV.slice 1104 0 (List.length L) 2 (Cp.lo (List.length L)),AV.slice 1105 0 B.length 1 (Cp.lo B.length)])).a (k18'.a ((k98' k len).a (k12'.a ((p' ((fPrs,27,A4' fPrs 27,lSbR (stA sa l c) m t L B w' P (off + k) (len - k) l i kb kl).snd.snd.fst = (fPrs,27,A4' fPrs 27,lSbR (stA sa l c) m t L B w' P (off + k) (len - k) l i kb kl).snd.snd.fst)).a (k15'.a ((p' (VW (a'::a'::a'::AV.ptr 0 0::AV.slice 1001 (off + k * 1) (len - k) 1 (Cp.lo (len - k))::a'::AV.ptr 1100 0::a'::a'::AV.ptr 1103 0::b' true::i' 0::AV.ptr 1106 0::b' true::i' 0::i' k::ra8 (AV.v (Value.slice (some sa) l c)::i' l::i' i::j'::AV.v (Value.pointer (some (sa.add (i * 2))))::AV.agg [z' z,AV.v (Value.slice ca cn cc)]::AV.ptr 1100 0::z' z::z' (IntKind.i64.wrap ↑(BitVec.ofInt 64 z &&& BitVec.ofInt 64 (Int.ofNat 1)).toNat)::g'::ra16 (ra8 (a'::a'::AV.tuple [AV.agg [s' m,s' t,AV.slice 1101 0 (List.length L) 2 (Cp.lo (List.length L)),AV.slice 1102 0 B.length 1 (Cp.lo B.length)],b' true,i' 0]::AV.ptr 0 0::AV.tuple [AV.agg [s' m,s' t,AV.slice 1101 0 (List.length L) 2 (Cp.lo (List.length L)),AV.slice 1102 0 B.length 1 (Cp.lo B.length)],b' true,i' 0]::AV.agg [s' m,s' t,AV.slice 1101 0 (List.length L) 2 (Cp.lo (List.length L)),AV.slice 1102 0 B.length 1 (Cp.lo B.length)]::b' true::i' 0::AV.tuple [AV.agg [s' m,s' t,AV.slice 1104 0 (List.length L) 2 (Cp.lo (List.length L)),AV.slice 1105 0 B.length 1 (Cp.lo B.length)],b' true,i' 0,i' k]::AV.slice 1001 off len 1 (Cp.lo len)::AV.tuple [AV.agg [s' m,s' t,AV.slice 1104 0 (List.length L) 2 (Cp.lo (List.length L)),AV.slice 1105 0 B.length 1 (Cp.lo B.length)],b' true,i' 0,i' k]::AV.agg [s' m,s' t,AV.slice 1104 0 (List.length L) 2 (Cp.lo (List.length L)),AV.slice 1105 0 B.length 1 (Cp.lo B.length)]::b' true::i' 0::i' k::b' true::b' true::g'::g'::i' 0::i' 0::g'::g'::g'::AV.agg [s' m,s' t,AV.slice 1101 0 (List.length L) 2 (Cp.lo (List.length L)),AV.slice 1102 0 B.length 1 (Cp.lo B.length)]::AV.agg [s' m,s' t,AV.slice 1104 0 (List.length L) 2 (Cp.lo (List.length L)),AV.slice 1105 0 B.length 1 (Cp.lo B.length)]::b' true::g'::g'::AV.slice 1001 off len 1 (Cp.lo len)::i' k::AV.slice 1001 (off + k * 1) (len - k) 1 (Cp.lo (len - k))::AV.ptr 1103 3::AV.slice 1102 0 B.length 1 (Cp.lo B.length)::z' ↑B.length::i' 0::ra16 (ra8 (a'::[])))))) (a'::a'::a'::AV.ptr 0 0::AV.slice 1001 (off + k) (len - k) 1 (Cp.lo (len - k))::ra4 (AV.ptr 1103 0::ra8 (ra4 (a'::a'::AV.v (Value.slice (some sa) l c)::i' l::i' i::ra16 (ra16 (ra16 (ra16 (a'::i' kb::i' 0::ra16 (ra8 (a'::[])))))))))))).a ((p' (OW (AO.cells [s' m,s' t,AV.slice 1101 0 (List.length L) 2 (Cp.lo (List.length L)),AV.slice 1102 0 B.length 1 (Cp.lo B.length)] 64) (AO.cells [s' m,s' t,AV.slice 1101 0 (List.length L) 2 (Cp.lo (List.length L)),AV.slice 1102 0 kb 1 (Cp.lo kb)] 64))).a ((k195' w').a ((p' (OW (AO.cells (AV.rens (sgN (nm0 1001) [1000,1001] 1104) (rowV encB P)) 11) (AO.cells (AV.rens (nm5 (((1103,0,1001),1102),1101)) (rowV encB P)) 11))).a ((p' (OW (AO.cells (AV.rens (sgN (nm0 0) [1000,1001] 1101) (rowV encB B)) 10) (AO.cells (AV.rens (nm5 (((1103,0,1001),1102),1101)) (rowV encB B)) 10))).a ((p' (OW (AO.cells (AV.rens (sgN (nm0 0) [1000,1001] 1101) (rowV encP L)) 78) (AO.cells (AV.rens (nm5 (((1103,0,1001),1102),1101)) (rowV encP L)) 78))).a (k12'.a ((p' ((fPrs,32,A4' fPrs 32,lSc (stA sa l c) m t L w' P (off + k) (len - k) l i kl).snd.snd.fst = (fPrs,32,A4' fPrs 32,lSc (stA sa l c) m t L w' P (off + k) (len - k) l i kl).snd.snd.fst)).a (k15'.a ((p' (VW (a'::a'::a'::AV.ptr 0 0::AV.slice 1001 (off + k) (len - k) 1 (Cp.lo (len - k))::ra4 (AV.ptr 1103 0::ra8 (ra4 (a'::a'::AV.v (Value.slice (some sa) l c)::i' l::i' i::ra16 (ra16 (ra16 (ra16 (ra8 (a'::a'::AV.ptr 1103 2::AV.slice 1101 0 (List.length L) 2 (Cp.lo (List.length L))::AV.v (Value.int IntKind.i64 ↑(List.length L))::i' 0::ra8 (ra4 (a'::a'::[]))))))))))) (a'::a'::a'::AV.ptr 0 0::AV.slice 1001 (off + k) (len - k) 1 (Cp.lo (len - k))::ra4 (AV.ptr 1103 0::ra8 (ra4 (a'::a'::AV.v (Value.slice (some sa) l c)::i' l::i' i::ra16 (ra16 (ra16 (ra16 (ra8 (ra4 (i' kl::i' 0::ra8 (ra4 (a'::a'::[])))))))))))))).a ((p' (OW (AO.cells [s' m,s' t,AV.slice 1101 0 (List.length L) 2 (Cp.lo (List.length L)),a'] 64) (AO.cells [s' m,s' t,AV.slice 1101 0 kl 2 (Cp.lo kl),a'] 64))).a ((k195' w').a ((p' (OW (AO.cells (AV.rens (sgN (nm5 (((1103,0,1001),1102),1101)) [] 0) (rowV encB P)) 11) (AO.cells (AV.rens (nm4' ((1103,0,1001),1101)) (rowV encB P)) 11))).a ((p' (OW (AO.cells (AV.rens (sgN (nm5 (((1103,0,1001),1102),1101)) [] 0) (rowV encP L)) 78) (AO.cells (AV.rens (nm4' ((1103,0,1001),1101)) (rowV encP L)) 78))).a ((k192' w').a ((f' (Wk (b' (Int.ofNat w'.length != ↑(len - k))) g')).a ((k6' i).a t'))))))))))))))))))))))))))))))))))))) := by kernel_rfl
theorem UG' (W : World) (b : Value) (l off len : Nat) (w P : List UInt8) (F : HP) : AV' [] (AB' [(fPrs, 8, 0, hv (.lit false))]) [] W fPrs (A4' fPrs 8) (tms 0 119 (aPr (.v b) 0 1001 off len l l)) (oPr w P) kPr iPr F = VT.leaf (AX.exit 0,[AV.v b,AV.ptr 0 0,AV.slice 1001 off len 1 (Cp.lo len),i' l,i' l],119) [some (AO.own Md.nothing (exHP (parR w) parL)),some (AO.cells (rowV encB P) 11),none,none,none,none,none,none,none,none] 1100 ((k14' l).a t') := by kernel_rfl
def gPs : List AV → AP (Nat × Nat) := fun tmps => match getL tmps 3, getL tmps 4 with
 | .ptr p _, .slice a _ _ _ _ => .ret (p, a)
 | _, _ => .fail "parses"
def lPr (b : AV) (l : Nat) : List AV → AP (AX × List AV) := mkL gPs (fun _ => True) nmOu (fun _ => tms 0 119 (aPr b 0 1001 0 0 l 0)) (fun _ => oPr [] []) (fun _ => .leaf (.exit 0) (tms 0 119 []) [])
theorem dP' (W : World) (a : Option Addr) (l c : Nat) (F : HP) : wRun [(N7', cSpk)] (AB' [(fPrs, 1, 1, hv (.lit false)), (fPrs, 4, 1, hv (.lit false))]) [(fPrs, 8, A4' fPrs 8, lPr (.v (.slice a l c)) l)] W fPrs [.v (.slice a l c)] [] [1100, 1101] F = VT.leaf (b' true) [none,none] 1102 (k29'.a (k18'.a (k18'.a ((p' ((fPrs,8,A4' fPrs 8,lPr (AV.v (Value.slice a l c)) l).snd.snd.fst = (fPrs,8,A4' fPrs 8,lPr (AV.v (Value.slice a l c)) l).snd.snd.fst)).a (k15'.a ((p' (VW (AV.v (Value.slice a l c)::u'::b' false::AV.ptr 1100 0::AV.slice 1101 0 0 1 (Cp.ex 0)::ru8 (ru4 (u'::b' true::g'::AV.ptr 1100 0::AV.ptr 1100 0::g'::AV.slice 1101 0 0 1 (Cp.ex 0)::AV.v (Value.slice a l c)::z' ↑l::i' 0::ru16 (ru16 (ru16 (ru16 (ru16 (ru8 (ru4 ([])))))))))) (a'::a'::a'::AV.ptr 1100 0::AV.slice 1101 0 0 1 (Cp.lo 0)::ra16 (a'::a'::a'::AV.v (Value.slice a l c)::i' l::i' 0::ra16 (ra16 (ra16 (ra16 (ra16 (ra8 (ra4 ([]))))))))))).a ((p' (OW (AO.cells [e'] 122) (AO.own Md.nothing (exHP (parR []) parL)))).a (f' (OW (AO.cells (rep [AV.v (Value.int IntKind.u8 (Int.ofNat 0))] 0) 10) (AO.cells [] 11)))))))))) := by kernel_rfl
end
theorem UU' {w : List UInt8} {r : Rq0} {B : List UInt8} {k : Nat} (h : DJ' hdB w = .yes r B k) : B.length ≤ w.length := by
 unfold DJ' at h
 cases hn : hdN w with
 | none => rw [hn] at h; simp only at h; split at h <;> cases h
 | some n =>
  rw [hn] at h
  simp only at h
  split at h
  ·cases h
  ·cases hh : hdB (w.take n) with
   | bad s => rw [hh] at h; cases h
   | ok r' size =>
    rw [hh] at h
    simp only at h
    split at h
    ·cases h
    ·cases h
     rw [List.length_take, List.length_drop]
     omega
theorem VZ' (F : HP) (w x : List UInt8) (hb : w.length + x.length ≤ 4000000) : C1OK Tryz.prog F GH' (cFg w x) :=
 BK' (AE'.nothing F) (fun _ => .tuple []) gFe_ro (fun _ => rfl) (fun _ _ => X0' w x hb) fun _ => ⟨rfl, rfl, ⟨rfl, rfl, t0⟩, A0' (BX' _ _) (A0' (CE' _ _) A3'), ⟨t0, t0⟩, A0' (BX' _ _) (A0' (CE' _ _) A3')⟩
theorem MC' (F : HP) (w : List UInt8) : C1OK Tryz.prog F GG' (cLf w) :=
 BK' (AE'.nothing F) (fun _ => iv (Int.ofNat w.length)) OU' (fun _ => rfl) (fun _ _ => aC' w) fun _ => ⟨rfl, rfl, ⟨rfl, t0⟩, A0' (BX' _ _) A3', ⟨t0, t0⟩, A0' (BX' _ _) A3'⟩
theorem hP' (F : HP) : C1OK Tryz.prog F fSm cSmN :=
 BK' (AE'.nothing F) (fun _ => bv true) (fun _ => RO.ret _) (fun _ => rfl) (fun _ _ => iA') fun _ => ⟨rfl, rfl, ⟨⟨t0, t0, t0, t0, t0⟩, ⟨t0, t0, t0, t0, t0⟩, t0⟩, A3', ⟨t0, t0⟩, A3'⟩
section
variable {P w : List UInt8} {off : Nat} (F : HP) (hw : P.drop off = w) (hoff : off + w.length = P.length) (hl : w.length ≤ 4000000)
include hw hoff hl
theorem hT' {s : Nat} (h : DJ' hdB w = .no s) : C1OK Tryz.prog F fRNx (cRNn P off w.length s) :=
 BK' (AE'.nothing F) (fun _ => nrV s) GT' (fun _ => rfl) (fun _ _ => aA' hw hoff hl h) fun _ => ⟨rfl, rfl, ⟨rfl, t0⟩, A0' (AM' _ _) A3', ⟨⟨⟨t0, t0, t0, t0, t0⟩, t0, t0, t0, t0⟩, t0⟩, A0' (AM' _ _) A3'⟩
theorem hS' {m t : ByteArray} {L : Hds} {B : List UInt8} {k : Nat} (h : DJ' hdB w = .yes (m, t, L) B k) (hne : L ≠ []) : C1OK Tryz.prog F fRNx (cRNy P off w.length k m t L B) :=
 BK' (AE'.nothing F) (fun _ => .tuple [rqV m t (sP 1000 L.length) (sB 1001 B.length), bv true, iv (Int.ofNat 0), iv (Int.ofNat k)]) GT' (fun _ => rfl) (fun _ _ => by
  have := PQ' hw hoff hl h
  cases L with
  | nil => exact absurd rfl hne
  | cons x r => exact this) fun _ => ⟨rfl, rfl, ⟨rfl, t0⟩, A0' (AM' _ _) A3', ⟨⟨⟨t0, t0, rfl, rfl, t0⟩, t0, t0, t0, t0⟩, t0⟩, A0' (AM' _ _) (A0' (BN' _ _) (A0' (CE' _ _) A3'))⟩
theorem hQ' {m t : ByteArray} {B : List UInt8} {k : Nat} (h : DJ' hdB w = .yes (m, t, []) B k) : C1OK Tryz.prog F fRNx (cRNz P off w.length k m t B) :=
 BK' (AE'.nothing F) (fun _ => .tuple [rqV m t nilP (sB 1001 B.length), bv true, iv (Int.ofNat 0), iv (Int.ofNat k)]) GT' (fun _ => rfl) (fun _ _ => PQ' hw hoff hl h) fun _ => ⟨rfl, rfl, ⟨rfl, t0⟩, A0' (AM' _ _) A3', ⟨⟨⟨t0, t0, t0, rfl, t0⟩, t0, t0, t0, t0⟩, t0⟩, A0' (AM' _ _) (A0' (CE' _ _) A3')⟩
end
theorem RK' {N : AC'} {w : World} {m t : ByteArray} {L : Hds} {B : List UInt8} {HV : AV} {kb : Nat} {D : Nat → Prop} (hO : OR N kb (rB B) D w) (hHV : ∀ y, VR N HV y → ∃ a c, y = .slice a L.length c ∧ HAt w.cell? a L ∧ HNil a c L) {y : Value} (hy : VR N (rqV m t HV (sB kb B.length)) y) :
  ∃ r : Rqr, y = .agg (encQ r).toArray ∧ QAt w.cell? ((m, t, L), B) r := by
 unfold rqV at hy
 simp only [VR] at hy
 obtain ⟨vs, h1, rfl⟩ := hy
 obtain ⟨yl, yt, a1, a2, e⟩ := fourV h1
 obtain ⟨la, lc, rfl, b1, b3⟩ := hHV yl a1
 obtain ⟨ta, tc, rfl, b2⟩ := bd_raw hO a2
 refine ⟨⟨m, t, la, L.length, lc, ta, B.length, tc⟩, ?_, rfl, rfl, rfl, rfl, b1, b2.mono fun a v h => (J1' h).2, b3⟩
 rw [e]
 rfl
theorem RB' {N : AC'} {a b : AV} {vargs : Array Value} (h : VRs N [a, b] vargs.toList) : ∃ x y, VR N a x ∧ VR N b y ∧ vargs = [x, y].toArray := by
 obtain ⟨x, r0, a0, h, e⟩ := h
 obtain ⟨y, r1, a1, h, rfl⟩ := h
 have h : r1 = [] := h
 subst h
 exact ⟨x, y, a0, a1, by rw [← e]⟩
theorem hO' {F : HP} {m t : ByteArray} {L : Hds} {B : List UInt8} (hne : L ≠ []) (hL : L.length ≤ 4000000) : C1OK Tryz.prog F fSm (cSmY m t L B) := by
 intro st W0 N h0 w A vargs v h' n n' lg lg' c q hp he hcc r ha hf
 unfold cSmY at hp
 split at hp
 ·cases hp
  obtain ⟨o1, ho1, e1⟩ := AX' he
  obtain ⟨o2, ho2, e2⟩ := AX' e1
  obtain ⟨o3, ho3, e3⟩ := AX' e2
  obtain ⟨o4, ho4, e4⟩ := AX' e3
  obtain ⟨c1, e5, rfl⟩ := AH' e4
  obtain ⟨⟨⟨rfl, rfl, rfl, rfl⟩, ha1, ha2⟩, hc1⟩ := (Cnd.and_iff _ _).1 hcc
  obtain ⟨rfl, rfl, rfl⟩ := AD' e5
  obtain ⟨D1, hO1⟩ := r.obj ho1
  obtain ⟨D2, hO2⟩ := r.obj ho2
  obtain ⟨D3, hO3⟩ := r.obj ho3
  obtain ⟨D4, hO4⟩ := r.obj ho4
  rw [ha1, ha2] at ha
  obtain ⟨x, y, hx, hy, rfl⟩ := RB' ha
  obtain ⟨r1, rfl, q1⟩ := RK' (L := L) hO2 (fun y hy => by
   obtain ⟨a, c, e, h⟩ := b0' hO1 hy
   exact ⟨_, c, e, h.mono fun a v h => (J1' h).2, fun h => absurd h hne, fun _ => ⟨a, rfl⟩⟩) hx
  obtain ⟨r2, rfl, q2⟩ := RK' (L := L) hO4 (fun y hy => by
   obtain ⟨a, c, e, h⟩ := b0' hO3 hy
   exact ⟨_, c, e, h.mono fun a v h => (J1' h).2, fun h => absurd h hne, fun _ => ⟨a, rfl⟩⟩) hy
  refine (DU' (W := w) (args := [Value.agg (encQ r1).toArray, Value.agg (encQ r2).toArray]) (y := .bool true) (SQ' q1 q2 hL) (fun _ _ h => h)).mono ?_
  rintro e w' ⟨rfl, hb⟩
  exact ⟨_, N, rfl, r.below hb, VR_v.2 rfl, fun _ _ => rfl⟩
 ·cases hp
  cases he
theorem hN' {F : HP} {m t : ByteArray} {B : List UInt8} : C1OK Tryz.prog F fSm (cSmZ m t B) := by
 intro st W0 N h0 w A vargs v h' n n' lg lg' c q hp he hcc r ha hf
 unfold cSmZ at hp
 split at hp
 ·cases hp
  obtain ⟨o2, ho2, e1⟩ := AX' he
  obtain ⟨o4, ho4, e2⟩ := AX' e1
  obtain ⟨c1, e5, rfl⟩ := AH' e2
  obtain ⟨⟨⟨rfl, rfl⟩, ha1, ha2⟩, hc1⟩ := (Cnd.and_iff _ _).1 hcc
  obtain ⟨rfl, rfl, rfl⟩ := AD' e5
  obtain ⟨D2, hO2⟩ := r.obj ho2
  obtain ⟨D4, hO4⟩ := r.obj ho4
  rw [ha1, ha2] at ha
  obtain ⟨x, y, hx, hy, rfl⟩ := RB' ha
  obtain ⟨r1, rfl, q1⟩ := RK' (L := []) hO2 UT' hx
  obtain ⟨r2, rfl, q2⟩ := RK' (L := []) hO4 UT' hy
  refine (DU' (W := w) (args := [Value.agg (encQ r1).toArray, Value.agg (encQ r2).toArray]) (y := .bool true) (SQ' q1 q2 (Nat.zero_le _)) (fun _ _ h => h)).mono ?_
  rintro e w' ⟨rfl, hb⟩
  exact ⟨_, N, rfl, r.below hb, VR_v.2 rfl, fun _ _ => rfl⟩
 ·cases hp
  cases he
theorem gSa_ro : ∀ args, RO (gSa args) := by
 intro args
 unfold gSa
 split
 ·exact RO.ret _
 ·exact RO.fail _
theorem h0' : ∀ args, RO (gSbZ args) := by
 intro args
 unfold gSbZ
 split
 ·refine RO.read _ _ fun o => ?_
  split
  ·exact RO.ret _
  ·exact RO.fail _
 ·exact RO.fail _
theorem h3' : ∀ args, RO (gSbR args) := by
 intro args
 unfold gSbR
 split
 ·refine RO.read _ _ fun o => ?_
  split
  ·exact RO.ret _
  ·exact RO.fail _
 ·exact RO.fail _
theorem gSc_ro : ∀ args, RO (gSc args) := by
 intro args
 unfold gSc
 split
 ·refine RO.read _ _ fun o => ?_
  split
  ·exact RO.ret _
  ·exact RO.fail _
 ·exact RO.fail _
section
variable {W : World} {F : HP} (hF : AE' W F) (b : Value) (w P : List UInt8) (off n l i : Nat)
include hF
theorem V4' (x : List UInt8) (hx : x.length ≤ 4000000) : L1OK Tryz.prog F (A4' fPrs 17) (lSa (.v b) x w P off n l i x.length) :=
 AW' hF gSa_ro (fun _ _ => by
  simp only [RT.pick]
  exact bJ' b w P off n l i x hx) fun _ => by
  simp only [RT.pick]
  exact AQ' rfl rfl (A0' t0 (A0' rfl (A0' rfl (A0' rfl (A0' t0 (A0' t0 (A0' t0 (A0' t0 A3')))))))) (A0' (CE' _ _) (A0' (BX' _ _) (A0' (AM' _ _) A3'))) (A0' t0 (A0' rfl (A0' rfl (A0' t0 (A0' t0 A3'))))) (A0' (BX' _ _) (A0' (AM' _ _) A3'))
theorem gO' (m t : ByteArray) (x : List UInt8) (hx : x.length ≤ 4000000) : L1OK Tryz.prog F (A4' fPrs 27) (lSbZ (.v b) m t x w P off n l i x.length) :=
 AW' hF h0' (fun _ _ => by
  simp only [RT.pick]
  exact X8' b w P off n l i m t x hx) fun _ => by
  simp only [RT.pick]
  exact AQ' rfl rfl (A0' t0 (A0' rfl (A0' rfl (A0' rfl (A0' t0 (A0' t0 (A0' t0 (A0' t0 A3')))))))) (A0' ⟨t0, t0, t0, rfl, t0⟩ (A0' (BX' _ _) (A0' (AM' _ _) (A0' (CE' _ _) A3')))) (A0' rfl (A0' t0 (A0' rfl (A0' rfl (A0' t0 (A0' t0 A3')))))) (A0' ⟨t0, t0, t0, t0, t0⟩ (A0' (BX' _ _) (A0' (AM' _ _) A3')))
theorem gP' (m t : ByteArray) (L : Hds) (x : List UInt8) (hx : x.length ≤ 4000000) (q : Nat) : L1OK Tryz.prog F (A4' fPrs 27) (lSbR (.v b) m t L x w P off n l i x.length q) :=
 AW' hF h3' (fun _ _ => by
  simp only [RT.pick]
  exact X9' b w P off n l i m t L x hx) fun _ => by
  simp only [RT.pick]
  exact AQ' rfl rfl (A0' t0 (A0' rfl (A0' rfl (A0' rfl (A0' t0 (A0' t0 (A0' t0 (A0' t0 A3')))))))) (A0' ⟨t0, t0, rfl, rfl, t0⟩ (A0' (BX' _ _) (A0' (AM' _ _) (A0' (CE' _ _) (A0' (BN' _ _) A3'))))) (A0' rfl (A0' t0 (A0' rfl (A0' rfl (A0' t0 (A0' t0 A3')))))) (A0' ⟨t0, t0, rfl, t0, t0⟩ (A0' (BX' _ _) (A0' (AM' _ _) (A0' (BN' _ _) A3'))))
theorem lSc_ok (m t : ByteArray) (L : Hds) (hx : L.length ≤ 4000000) : L1OK Tryz.prog F (A4' fPrs 32) (lSc (.v b) m t L w P off n l i L.length) :=
 AW' hF gSc_ro (fun _ _ => by
  simp only [RT.pick]
  exact bI' b w P off n l i m t L hx) fun _ => by
  simp only [RT.pick]
  exact AQ' rfl rfl (A0' t0 (A0' rfl (A0' rfl (A0' rfl (A0' t0 (A0' t0 (A0' t0 (A0' t0 A3')))))))) (A0' ⟨t0, t0, rfl, t0, t0⟩ (A0' (BX' _ _) (A0' (AM' _ _) (A0' (BN' _ _) A3')))) (A0' t0 (A0' rfl (A0' rfl (A0' t0 (A0' t0 A3'))))) (A0' (BX' _ _) (A0' (AM' _ _) A3'))
end
def tot : List (Int × List UInt8) → Nat
 | [] => 0
 | s :: r => s.2.length + tot r
def SArg (W : World) (b : Value) (S : List (Int × List UInt8)) : Prop := (∃ c, b = .slice none 0 c ∧ S = []) ∨ ∃ sa c, b = .slice (some sa) S.length c ∧ ∀ (i : Nat) s, S[i]? = some s → W.cell? ((sa.add (i * 2)).add 0) = some (.int .i64 s.1) ∧ ∃ ca cn cc, W.cell? ((sa.add (i * 2)).add 1) = some (.slice ca cn cc) ∧ BArg W (.slice ca cn cc) s.2
theorem X3' {S : List (Int × List UInt8)} {i : Nat} {s : Int × List UInt8} (h : S[i]? = some s) : tot (S.drop i) = s.2.length + tot (S.drop (i + 1)) := by
 obtain ⟨h1, h2⟩ := List.getElem?_eq_some_iff.1 h
 rw [List.drop_eq_getElem_cons h1, h2]
 rfl
structure PrS where
 i : Nat
 w : List UInt8
 P : List UInt8
 off : Nat
def PrS.ok (S : List (Int × List UInt8)) (s : PrS) : Prop := s.i ≤ S.length ∧ s.P.drop s.off = s.w ∧ s.off + s.w.length = s.P.length ∧ s.w.length + tot (S.drop s.i) ≤ 1048576
theorem bK' (x : List UInt8) : rowV encB x = vmap (List.map (fun b => Value.int IntKind.u8 ↑b.toNat) x) := B1' x
section
variable {W : World} (hW : LW W) {sa : Addr} {c : Nat} {S : List (Int × List UInt8)} (hS : S.length ≤ 1048576) (hC : ∀ (i : Nat) s, S[i]? = some s → W.cell? ((sa.add (i * 2)).add 0) = some (.int .i64 s.1) ∧ ∃ ca cn cc, W.cell? ((sa.add (i * 2)).add 1) = some (.slice ca cn cc) ∧ BArg W (.slice ca cn cc) s.2)
include hW hS hC
theorem bU' (s0 : {s : PrS // s.ok S}) : LTri Tryz.prog W (A4' fPrs 8) (tms 0 119 (aPr (stA sa S.length c) 0 1001 s0.1.off s0.1.w.length S.length s0.1.i)) (oPr s0.1.w s0.1.P) (.exit 0) (tms 0 119 []) [] := by
 refine AS' (W := W) (g := fPrs) (b := A4' fPrs 8) (σ := {s : PrS // s.ok S}) 119 (fun s => aPr (stA sa S.length c) 0 1001 s.1.off s.1.w.length S.length s.1.i) (fun s => oPr s.1.w s.1.P) (.exit 0) [] [] (fun s => S.length - s.1.i) kPr iPr (by intro h; cases h) (fun _ => rfl) rfl ?_ s0
 rintro ⟨⟨i, w, P, off⟩, hi, hw, hoff, htot⟩
 simp only at hi hw hoff htot
 simp only
 by_cases hl : i < S.length
 ·have hwi := AO' i (by omega)
  have e1 := ltTN hl
  have g3 : i.blt S.length = true := by rw [Nat.blt_eq]; exact hl
  have hSi : S[i]? = some S[i] := List.getElem?_eq_getElem hl
  obtain ⟨y0, ca, cn, cc, y1, hB⟩ := hC i _ hSi
  have hT := X3' hSi
  have hso := AR' hl
  generalize S[i] = s at *
  obtain ⟨z, x⟩ := s
  simp only at y0 hB hT
  have y1' : W.cell? (Addr.mk (sa.add (i * 2)).block ((sa.add (i * 2)).off + 1) none) = some (.slice ca cn cc) := y1
  have ya : ([0, 1].all fun j => (W.cell? ((sa.add (i * 2)).add j)).isSome) = true := by simp only [List.all_cons, List.all_nil, y0, y1, Option.isSome_some, Bool.and_true]
  have hwl : w.length ≤ 4000000 := by omega
  have hxl : x.length ≤ 4000000 := by omega
  have hwx : w.length + x.length ≤ 4000000 := by omega
  cases e2 : (IntKind.i64.wrap ↑(BitVec.ofInt 64 z &&& BitVec.ofInt 64 (Int.ofNat 1)).toNat == Int.ofNat 0) with
  | true =>
   rcases hB with ⟨bc, hb, hx0⟩ | ⟨ba, bc, hb, hle, hcells⟩
   ·cases hb
    subst hx0
    refine ⟨[(GH', cFg w []), (GG', cLf (w ++ []))], AB' (hPr z (.slice none 0 cc) i true ++ [(fPrs, 11, 3, h0), (fPrs, 13, 3, h0), (fPrs, 14, 1, ht nil0), (fPrs, 14, 4, ht nil0), (fPrs, 14, 5, hv (.lit false))]), [(fPrs, 17, A4' fPrs 17, lSa (stA sa S.length c) [] (w ++ []) P off w.length S.length i 0)], fun F hF => A5' (VZ' F w [] hwx) (AP' (MC' F _)), fun F hF => BE' (V4' hF _ _ _ _ _ _ _ [] (Nat.zero_le _)), fun F => ?_⟩
    refine cv (dT' W sa S.length c cc i off w.length z w P F) ⟨⟨?_, rfl, .inl ⟨rfl, ⟨⟨i + 1, w, P, off⟩, hl, hw, hoff, by simp only at hT ⊢; simp only [List.length_nil] at hT; omega⟩, hso, [(1001, 1001)], by kernel_rfl, by kernel_rfl, ⟨w0, w0, w0, w0, w0, t0⟩, ⟨_, rfl, OW.of_eq (by rw [List.append_nil]; rfl)⟩, ⟨_, rfl, AJ' (by rw [A2']) rfl⟩, t0⟩⟩⟩
    have e3 : (Int.ofNat (w ++ []).length != (w.length : Int)) = false := by rw [List.append_nil]; exact DR' _
    simp only [Cnd.holds, g3, ya, y0, y1', Option.getD_some, AV.intOf, A2', Nat.blt_eq, true_and, and_true]
    and_intros
    all_goals first
     | (with_reducible exact AG' hwi)
     | exact A1' e1
     | exact A1' e2
     | exact A1' e3
     | exact n0 | (with_reducible first | exact t0 | exact r0 | exact A6' _ | assumption) | exact r0 | ((repeat (first | exact VW.nil | refine c1 ?_ | refine c2 ?_ | refine c3 ?_)); done)
   ·cases hb
    by_cases h0x : x = []
    ·subst h0x
     refine ⟨[(GH', cFg w []), (GG', cLf (w ++ []))], AB' (hPr z (.slice (some ba) 0 cc) i true ++ [(fPrs, 11, 3, h0), (fPrs, 13, 3, h0), (fPrs, 14, 1, ht nil0), (fPrs, 14, 4, ht nil0), (fPrs, 14, 5, hv (.lit false))]), [(fPrs, 17, A4' fPrs 17, lSa (stA sa S.length c) [] (w ++ []) P off w.length S.length i 0)], fun F hF => A5' (VZ' F w [] hwx) (AP' (MC' F _)), fun F hF => BE' (V4' hF _ _ _ _ _ _ _ [] (Nat.zero_le _)), fun F => ?_⟩
     refine cv (dV' W sa ba S.length c cc i off w.length z w P F) ⟨⟨?_, rfl, .inl ⟨rfl, ⟨⟨i + 1, w, P, off⟩, hl, hw, hoff, by simp only at hT ⊢; simp only [List.length_nil] at hT; omega⟩, hso, [(1001, 1001)], by kernel_rfl, by kernel_rfl, ⟨w0, w0, w0, w0, w0, t0⟩, ⟨_, rfl, OW.of_eq (by rw [List.append_nil]; rfl)⟩, ⟨_, rfl, AJ' (by rw [A2']) rfl⟩, t0⟩⟩⟩
     have e3 : (Int.ofNat (w ++ []).length != (w.length : Int)) = false := by rw [List.append_nil]; exact DR' _
     have y1' : W.cell? (Addr.mk (sa.add (i * 2)).block ((sa.add (i * 2)).off + 1) none) = some (.slice (some ba) 0 cc) := y1
     have e4 : ∀ j : Nat, j < nil0.size → W.cell? (ba.add j) = some (Value.int IntKind.u8 ↑(nil0.data.toList.getD j 0).toNat) := fun j hj => absurd hj (Nat.not_lt_zero _)
     simp only [Cnd.holds, g3, ya, y0, y1', Option.getD_some, AV.intOf, A2', Nat.blt_eq, true_and, and_true]
     and_intros
     all_goals first
      | (with_reducible exact AG' hwi)
      | exact A1' e1
      | exact A1' e2
      | exact A1' e3
      | exact e4
      | exact n0 | (with_reducible first | exact t0 | exact r0 | exact A6' _ | assumption) | exact r0 | ((repeat (first | exact VW.nil | refine c1 ?_ | refine c2 ?_ | refine c3 ?_)); done)
    ·have hp : 0 < x.length := List.length_pos_iff.2 h0x
     have b0 : Nat.blt 0 x.length = true := by rw [Nat.blt_eq]; exact hp
     have b1 : x.length.ble 140737488355328 = true := C6' (by omega)
     have b2 : x.length.ble 9223372036854775807 = true := C6' (by omega)
     have b3 : (w.length + x.length).ble 140737488355328 = true := C6' (by omega)
     have b4 : (w.length + x.length).ble 9223372036854775807 = true := C6' (by omega)
     have hor := bZ' hcells
     have hoa := d0' hcells
     have ho1 : (rowV encB x).all AV.one = true := MU' (fun _ => rfl) _
     have hP : List.take w.length (List.drop off (rowV encB P)) = rowV encB w := KI' hw
     have k1 : (off + w.length).ble (rowV encB P).length = true := by rw [BR', Nat.ble_eq]; omega
     have k2 : (rowV encB w).length.beq w.length = true := by rw [BR']; exact Nat.beq_refl _
     have hall := Q2' x
     have hxlen : x.length ≤ (rowV encB x).length := by rw [BR']; exact n0
     have henc := bK' x
     have hbt := NC' (W := W) (a := ba) (B := x) hcells
     refine ⟨[(GH', cFg w x), (GG', cLf (w ++ x))], AB' (hPr z (.slice (some ba) x.length cc) i true ++ [(fPrs, 11, 3, hvo (sB 1102 x.length) 1102 (rB x)), (fPrs, 13, 3, hvo (sO 1103 0 (w.length + x.length)) 1103 (rB1 (w ++ x))), (fPrs, 14, 1, ht (tB x)), (fPrs, 14, 4, ht (tB x)), (fPrs, 14, 5, hv (.lit false))]), [(fPrs, 17, A4' fPrs 17, lSa (stA sa S.length c) x (w ++ x) (w ++ x) 0 (w.length + x.length) S.length i x.length)], fun F hF => A5' (VZ' F w x hwx) (AP' (MC' F _)), fun F hF => BE' (V4' hF _ _ _ _ _ _ _ x hxl), fun F => ?_⟩
     refine cv (dU' W sa ba S.length c x.length cc i off w.length z w x P (w ++ x) F) ⟨⟨?_, rfl, .inl ⟨rfl, ⟨⟨i + 1, w ++ x, w ++ x, 0⟩, hl, rfl, Nat.zero_add _, by simp only at hT ⊢; rw [List.length_append]; omega⟩, hso, [(1001, 1103)], by kernel_rfl, by kernel_rfl, ⟨w0, w0, by simp only [List.length_append]; exact w0, w0, w0, t0⟩, ⟨_, rfl, o0⟩, ⟨_, rfl, AJ' (by rw [A2']) rfl⟩, t0⟩⟩⟩
     have e3 : (Int.ofNat (w ++ x).length != ((w.length + x.length : Nat) : Int)) = false := by rw [List.length_append]; exact DR' _
     have o2 : OW (AO.cells (rowV encB w ++ rowV encB x) (MX' off 11)) (AO.cells (rowV encB (w ++ x)) 11) := by
      rw [show (11 : Nat) = tByt + 1 from rfl, OH', CK']; exact o0
     simp only [Cnd.holds, g3, ya, y0, y1', Option.getD_some, AV.intOf, A2', Nat.mul_one, Nat.zero_add, List.nil_append, hor, hoa, ho1, b0, b1, b2, b3, b4, hP, k1, k2, hall, Nat.blt_eq, true_and, and_true]
     and_intros
     all_goals first
      | (with_reducible exact AG' hwi)
      | exact A1' e1
      | exact A1' e2
      | exact A1' e3
      | exact o2
      | exact hxlen
      | exact henc
      | exact QQ' _
      | exact hbt
      | exact A1' (MW' _)
      | exact Nat.ble_self_eq_true _ | (with_reducible first | exact t0 | exact r0 | exact A6' _ | assumption) | exact r0 | ((repeat (first | exact VW.nil | refine c1 ?_ | refine c2 ?_ | refine c3 ?_)); done)
  | false =>
   cases hn : DJ' hdB w with
   | no s =>
    refine ⟨[(AK', cNxN w s), (fRNx, cRNn P off w.length s), (fSm, cSmN), (GG', cLf w)], AB' (hPr z (.slice ca cn cc) i false ++ hNe ++ [(fPrs, 27, 0, hv (.lit false)), (fPrs, 32, 0, hv (.lit false))]), [], fun F hF => A5' (hX' hW hF hwl hn) (A5' (hT' F hw hoff hwl hn) (A5' (hP' F) (AP' (MC' F _)))), fun F hF => noL, fun F => ?_⟩
    refine cv (dS' W sa S.length c i off w.length s z ca cn cc w P F) ⟨⟨?_, rfl, .inl ⟨rfl, ⟨⟨i + 1, w, P, off⟩, hl, hw, hoff, by simp only at hT ⊢; omega⟩, hso, [(1001, 1001)], by kernel_rfl, by kernel_rfl, ⟨w0, w0, w0, w0, w0, t0⟩, ⟨_, rfl, o0⟩, ⟨_, rfl, AJ' (by rw [A2']) rfl⟩, t0⟩⟩⟩
    simp only [Cnd.holds, g3, ya, y0, y1', Option.getD_some, AV.intOf, A2', Nat.blt_eq, true_and, and_true]
    and_intros
    all_goals first
     | (with_reducible exact AG' hwi)
     | exact A1' e1
     | exact A1' e2
     | exact A1' (DR' _)
     | exact Nat.ble_self_eq_true _ | (with_reducible first | exact t0 | exact r0 | exact A6' _ | assumption) | exact r0 | ((repeat (first | exact VW.nil | refine c1 ?_ | refine c2 ?_ | refine c3 ?_)); done)
   | yes r B k =>
    obtain ⟨m, t, L⟩ := r
    obtain ⟨_, hk2, hkl⟩ := S1' hdB [] hn
    have hBl := UU' hn
    have hLl := YX' hn
    have hk : k.ble w.length = true := by rw [Nat.ble_eq]; exact hkl
    have hwd : (w.drop k).length = w.length - k := List.length_drop
    have hPd : P.drop (off + k) = w.drop k := by rw [← hw, List.drop_drop]
    cases L with
    | nil =>
     refine ⟨[(AK', cNxZ w (w.drop k) m t B), (fRNx, cRNz P off w.length k m t B), (fSm, cSmZ m t B), (GG', cLf (w.drop k))], AB' (hPr z (.slice ca cn cc) i false ++ hNe ++ [(fPrs, 32, 0, hv (.lit false))]), [(fPrs, 27, A4' fPrs 27, lSbZ (stA sa S.length c) m t B (w.drop k) P (off + k) (w.length - k) S.length i B.length)], fun F hF => A5' (hU' hW hF hwl hn) (A5' (hQ' F hw hoff hwl hn) (A5' hN' (AP' (MC' F _)))), fun F hF => BE' (gO' hF _ _ _ _ _ _ _ m t B (by omega)), fun F => ?_⟩
     refine cv (dQ' W sa S.length c i off w.length k B.length z ca cn cc m t B w (w.drop k) P F) ⟨⟨?_, rfl, .inl ⟨rfl, ⟨⟨i + 1, w.drop k, P, off + k⟩, hl, hPd, by simp only; omega, by simp only at hT ⊢; omega⟩, hso, [(1001, 1001)], by kernel_rfl, by kernel_rfl, ⟨w0, w0, by simp only [hwd]; exact w0, w0, w0, t0⟩, ⟨_, rfl, o0⟩, ⟨_, rfl, AJ' (by rw [A2']) rfl⟩, t0⟩⟩⟩
     have e3 : (Int.ofNat (w.drop k).length != ((w.length - k : Nat) : Int)) = false := by rw [hwd]; exact DR' _
     simp only [Cnd.holds, g3, ya, y0, y1', Option.getD_some, AV.intOf, A2', Nat.mul_one, hk, Nat.blt_eq, true_and, and_true]
     and_intros
     all_goals first
      | (with_reducible exact AG' hwi)
      | exact A1' e1
      | exact A1' e2
      | exact A1' e3
      | exact A1' (DR' _)
      | exact Nat.ble_self_eq_true _ | (with_reducible first | exact t0 | exact r0 | exact A6' _ | assumption) | exact r0 | ((repeat (first | exact VW.nil | refine c1 ?_ | refine c2 ?_ | refine c3 ?_)); done)
    | cons p r =>
     have hne : p :: r ≠ [] := by intro e; cases e
     generalize p :: r = L at *
     refine ⟨[(AK', cNxY w (w.drop k) m t L B), (fRNx, cRNy P off w.length k m t L B), (fSm, cSmY m t L B), (GG', cLf (w.drop k))], AB' (hPr z (.slice ca cn cc) i false ++ hNe), [(fPrs, 27, A4' fPrs 27, lSbR (stA sa S.length c) m t L B (w.drop k) P (off + k) (w.length - k) S.length i B.length L.length), (fPrs, 32, A4' fPrs 32, lSc (stA sa S.length c) m t L (w.drop k) P (off + k) (w.length - k) S.length i L.length)], fun F hF => A5' (hV' hW hF hwl hn hne) (A5' (hS' F hw hoff hwl hn hne) (A5' (hO' hne hLl) (AP' (MC' F _)))), fun F hF => D3' (gP' hF _ _ _ _ _ _ _ m t L B (by omega) _) (BE' (lSc_ok hF _ _ _ _ _ _ _ m t L hLl)), fun F => ?_⟩
     refine cv (dR' W sa S.length c i off w.length k B.length L.length z ca cn cc m t L B w (w.drop k) P F) ⟨⟨?_, rfl, .inl ⟨rfl, ⟨⟨i + 1, w.drop k, P, off + k⟩, hl, hPd, by simp only; omega, by simp only at hT ⊢; omega⟩, hso, [(1001, 1001)], by kernel_rfl, by kernel_rfl, ⟨w0, w0, by simp only [hwd]; exact w0, w0, w0, t0⟩, ⟨_, rfl, o0⟩, ⟨_, rfl, AJ' (by rw [A2']) rfl⟩, t0⟩⟩⟩
     have e3 : (Int.ofNat (w.drop k).length != ((w.length - k : Nat) : Int)) = false := by rw [hwd]; exact DR' _
     simp only [Cnd.holds, g3, ya, y0, y1', Option.getD_some, AV.intOf, A2', Nat.mul_one, hk, Nat.blt_eq, true_and, and_true]
     and_intros
     all_goals first
      | (with_reducible exact AG' hwi)
      | exact A1' e1
      | exact A1' e2
      | exact A1' e3
      | exact A1' (DR' _)
      | exact Nat.ble_self_eq_true _ | (with_reducible first | exact t0 | exact r0 | exact A6' _ | assumption) | exact r0 | ((repeat (first | exact VW.nil | refine c1 ?_ | refine c2 ?_ | refine c3 ?_)); done)
 ·have hie : i = S.length := by omega
  subst hie
  refine ⟨[], AB' [(fPrs, 8, 0, hv (.lit false))], [], fun _ _ => noC, fun _ _ => noL, fun F => ?_⟩
  refine cv (UG' W (.slice (some sa) S.length c) S.length off w.length w P F) ⟨⟨?_, rfl, .inr ⟨rfl, [], rfl, rfl, t0, t0⟩⟩⟩
  simp only [Cnd.holds, A2', Nat.blt_eq, true_and, and_true]
  and_intros
  all_goals first
   | exact A1' (ltFN (n0)) | (with_reducible first | exact t0 | exact r0 | exact A6' _ | assumption) | exact r0 | ((repeat (first | exact VW.nil | refine c1 ?_ | refine c2 ?_ | refine c3 ?_)); done)
end
theorem gPs_ro : ∀ args, RO (gPs args) := by
 intro args
 unfold gPs
 split
 ·exact RO.ret _
 ·exact RO.fail _
theorem bT' {W : World} {b : Value} : LTri Tryz.prog W (A4' fPrs 8) (tms 0 119 (aPr (.v b) 0 1001 0 0 0 0)) (oPr [] []) (.exit 0) (tms 0 119 []) [] := by
 refine AS' (W := W) (g := fPrs) (b := A4' fPrs 8) (σ := Unit) 119 (fun _ => aPr (.v b) 0 1001 0 0 0 0) (fun _ => oPr [] []) (.exit 0) [] [] (fun _ => 0) kPr iPr (by intro h; cases h) (fun _ => rfl) rfl ?_ ()
 intro _
 refine ⟨[], AB' [(fPrs, 8, 0, hv (.lit false))], [], fun _ _ => noC, fun _ _ => noL, fun F => ?_⟩
 refine cv (UG' W b 0 0 0 [] [] F) ⟨⟨?_, rfl, .inr ⟨rfl, [], rfl, rfl, t0, t0⟩⟩⟩
 simp only [Cnd.holds, A2', Nat.blt_eq, true_and, and_true]
 and_intros
 all_goals first
  | exact A1' (ltFN (n0)) | (with_reducible first | exact t0 | exact r0 | exact A6' _ | assumption) | exact r0 | ((repeat (first | exact VW.nil | refine c1 ?_ | refine c2 ?_ | refine c3 ?_)); done)
section
variable {W : World} (hW : LW W) {a : Option Addr} {l c : Nat} {S : List (Int × List UInt8)} (hS : SArg W (.slice a l c) S) (hb : S.length + tot S ≤ 1048576)
include hW hS hb
theorem Parses_tri : Tri Tryz.prog W fPrs (vmap [.slice a l c]) [] (.v (.bool true)) [] := by
 have key : LTri Tryz.prog W (A4' fPrs 8) (tms 0 119 (aPr (.v (.slice a l c)) 0 1001 0 0 l 0)) (oPr [] []) (.exit 0) (tms 0 119 []) [] := by
  rcases hS with ⟨c', h, rfl⟩ | ⟨sa, c', h, hC⟩
  ·cases h
   exact bT'
  ·cases h
   exact bU' hW (by omega) hC ⟨⟨0, [], [], 0⟩, Nat.zero_le _, rfl, rfl, by simp only [List.length_nil, List.drop_zero]; omega⟩
 refine AA' (con := [(N7', cSpk)]) (hints := AB' [(fPrs, 1, 1, hv (.lit false)), (fPrs, 4, 1, hv (.lit false))]) (lc := [(fPrs, 8, A4' fPrs 8, lPr (.v (.slice a l c)) l)]) [1100, 1101] rfl (fun F hF => AP' (hL' hW hF)) (fun F hF => BE' (AW' hF gPs_ro (fun _ _ => by
  simp only [RT.pick]
  exact key) fun _ => by
  simp only [RT.pick]
  exact AQ' rfl rfl (A0' t0 (A0' rfl (A0' rfl (A0' t0 (A0' t0 A3'))))) (A0' (BX' _ _) (A0' (AM' _ _) A3')) A3' A3')) fun F => ?_
 refine cv (dP' W a l c F) ⟨⟨?_, (AF' (vs' := [bv true]) (H' := []) [] rfl rfl (v0) trivial).fits rfl⟩⟩
 simp only [Cnd.holds, A2', Nat.blt_eq, true_and, and_true]
 and_intros
 all_goals first
  | exact pZ_par
  | exact aP' [] | (with_reducible first | exact t0 | exact r0 | exact A6' _ | assumption) | exact r0 | ((repeat (first | exact VW.nil | refine c1 ?_ | refine c2 ?_ | refine c3 ?_)); done)
end
end Go.Proofs.YtpijbbobejeemaaGreatDoor.Htp
namespace Go.Proofs.YtpijbbobejeemaaGreatDoor
open Go
theorem IZ' {α : Type} {f : α → List Value} {m : Nat} (hf : ∀ x, (f x).length = m) : ∀ (l : List α) (k j : Nat) (h : k < l.length), j < m → (l.flatMap f)[k * m + j]? = (f l[k])[j]?
 | [], _, _, h, _ => by simp at h
 | x :: l, 0, j, _, hj => by
  rw [List.flatMap_cons, Nat.zero_mul, Nat.zero_add, List.getElem?_append_left (by rw [hf]; exact hj)]
  rfl
 | x :: l, k + 1, j, h, hj => by
  rw [List.flatMap_cons, List.getElem?_append_right (by rw [hf, Nat.add_mul]; omega), hf, show (k + 1) * m + j - m = k * m + j from by rw [Nat.add_mul]; omega]
  exact IZ' hf l k j (by simpa using h) hj
theorem IG' {α : Type} {f : α → List Value} {m : Nat} (hf : ∀ x, (f x).length = m) (l : List α) : (l.flatMap f).length = l.length * m := by
 induction l with
 | nil => simp
 | cons p l ih => simp only [List.flatMap_cons, List.length_append, hf, List.length_cons, ih, Nat.add_mul]; omega
open Go.ChangeShapes Go.WideShapes Go.RowKit Go.Deep
section
variable {H : Type} {enc : TypeId × Value → H} {P : Program} {w : World} {base : Nat} {spare : Nat → Bool} {held : Bool}
def WV' (P : Program) (t : TypeId) (d : DataW H) : Prop := ∀ n ∈ d.weights P t, n ≤ reachBytes
theorem WV'.len {t e : TypeId} {elems sp : List (DataW H)} (hu : P.underlying t = some (.slice e)) (h : WV' P t (.slice elems sp)) : (elems.length + sp.length) * P.bytesOf e ≤ reachBytes :=
 h _ (by simp only [DataW.weights, hu, List.mem_cons, true_or])
theorem WV'.field {t : TypeId} {fs : Array Field} {parts : List (DataW H)} (hu : P.underlying t = some (.struct fs)) (h : WV' P t (.agg parts)) {i : Nat} {f : Field} {d : DataW H} (hf : fs[i]? = some f) (hp : parts[i]? = some d) : WV' P f.type d := fun n hn => by
 refine h n ?_
 simp only [DataW.weights, hu]
 exact DataW.weights_mem_each (j := i) (by simp [hf]) hp n hn
end
end Go.Proofs.YtpijbbobejeemaaGreatDoor
namespace Go.Proofs.YtpijbbobejeemaaGreatDoor.Upto
open Go.ChangeShapes Go.WideShapes Go.RowKit Go.Deep
theorem one_le {H : Type} (d : DataW H) : 1 ≤ Rows.uptoBulk d := by
 cases d with
 | lit l => cases l <;> simp [Rows.uptoBulk]
 | nil => simp [Rows.uptoBulk]
 | ptr d => simp [Rows.uptoBulk]
 | slice elems spare => simp [Rows.uptoBulk]
 | agg parts => simp [Rows.uptoBulk]
 | iface t d => simp [Rows.uptoBulk]
 | map entries => simp [Rows.uptoBulk]
 | held h => simp [Rows.uptoBulk]
theorem bV' {H : Type} {d : DataW H} {l : List (DataW H)} (h : d ∈ l) : Rows.uptoBulk d ≤ Rows.uptoBulkAll l := by
 induction l with
 | nil => cases h
 | cons x r ih =>
  simp only [Rows.uptoBulkAll]
  cases List.mem_cons.1 h with
  | inl e => subst e; omega
  | inr e => have := ih e; omega
theorem length_le {H : Type} (l : List (DataW H)) : l.length ≤ Rows.uptoBulkAll l := by
 induction l with
 | nil => simp [Rows.uptoBulkAll]
 | cons x r ih => have := one_le x; simp only [Rows.uptoBulkAll, List.length_cons]; omega
theorem slice_elems {H : Type} (elems spare : List (DataW H)) : Rows.uptoBulkAll elems + 1 ≤ Rows.uptoBulk (.slice elems spare) := by
 simp only [Rows.uptoBulk]
 omega
theorem agg_part {H : Type} {parts : List (DataW H)} {d : DataW H} (h : d ∈ parts) : Rows.uptoBulk d + 1 ≤ Rows.uptoBulk (.agg parts) := by
 have := bV' h
 simp only [Rows.uptoBulk]
 omega
theorem bound {H : Type} {l : List (DataW H)} (hk : Rows.uptoSmall H l = true) : Rows.uptoBulkAll l ≤ 1048576 := of_decide_eq_true hk
theorem RF' {H α : Type} (wt : α → Nat) : ∀ (l : List α) (ds : List (DataW H)), l.length = ds.length → (∀ (i : Nat) (p : α) (d : DataW H), l[i]? = some p → ds[i]? = some d → wt p ≤ Rows.uptoBulk d) → (l.map wt).sum ≤ Rows.uptoBulkAll ds
 | [], [], _, _ => Nat.zero_le _
 | [], _ :: _, h, _ => by cases h
 | _ :: _, [], h, _ => by cases h
 | p :: l, d :: ds, h, hw => by
  have h1 := hw 0 p d rfl rfl
  have h2 := RF' wt l ds (by simpa using h) fun i q e hq he => hw (i + 1) q e hq he
  simp only [List.map_cons, List.sum_cons, Rows.uptoBulkAll]
  omega
theorem open_rdU {H : Type} {enc : TypeId × Value → H} {P : Program} {w : World} {base : Nat} {spare : Nat → Bool} {held : Bool} {α : Type} (f : α → List Value) {size : Nat} (h0 : 0 < size) (hf : ∀ x, (f x).length = size) {t e : TypeId} (ht : P.underlying t = some (.slice e)) (hC : P.cellsOf e = size)
  {Q : α → Prop} (wt : α → Nat) (hopen : ∀ (n : Nat) (cs : List Value) (x : DataW H × List MemPlace), DataW.trod enc P w base spare held n e cs = some x → ∃ p : α, cs = f p ∧ Q p ∧ wt p ≤ Rows.uptoBulk x.1)
  {fuel : Nat} {A : Option Addr} {len cap : Nat} {x : DataW H × List MemPlace} (h : DataW.trod enc P w base spare held fuel t [.slice A len cap] = some x) :
  ∃ l : List α, l.length = len ∧ Rd w A len size (l.flatMap f) ∧ (∀ p ∈ l, Q p) ∧ (l.map wt).sum + 1 ≤ Rows.uptoBulk x.1 := by
 rcases open_slice ht h with ⟨hcs, _⟩ | ⟨a, len', cap', m, n, D, Pl, hcs, hb, hl, hm, hmm, hx, hi⟩
 ·simp only [List.cons.injEq, Value.slice.injEq, and_true] at hcs
  obtain ⟨rfl, rfl, rfl⟩ := hcs
  exact ⟨[], rfl, Rd.nil _, (fun p hp => by cases hp), one_le x.1⟩
 ·simp only [List.cons.injEq, Value.slice.injEq, and_true] at hcs
  obtain ⟨rfl, rfl, rfl⟩ := hcs
  have hlm : len ≤ m := by rw [hmm]; split <;> omega
  have hall : ∀ i : Fin len, ∃ p : α, Q p ∧ wt p ≤ Rows.uptoBulk (D i.1) ∧ ∀ j u, (f p)[j]? = some u → w.cell? (a.add (i.1 * size + j)) = some u := fun i => by
   obtain ⟨cs', hc, ht'⟩ := hi i.1 (by omega)
   obtain ⟨p, rfl, hq, hwt⟩ := hopen _ _ _ ht'
   refine ⟨p, hq, hwt, fun j u hu => ?_⟩
   obtain ⟨_, hcl, hat⟩ := World.cells?_some hc
   have hj : j < P.cellsOf e := by rw [hC, ← hf p]; exact (List.getElem?_eq_some_iff.1 hu).1
   rw [← hu, ← hat j hj, hC, SM']
  obtain ⟨g, hg⟩ := Classical.axiomOfChoice hall
  refine ⟨List.ofFn g, by simp, ?_, fun p hp => ?_, ?_⟩
  rotate_left
  ·obtain ⟨i, rfl⟩ := List.mem_ofFn.1 hp
   exact (hg i).1
  ·rw [hx]
   refine Nat.le_trans (Nat.succ_le_succ ?_) (slice_elems _ _)
   refine RF' wt _ _ (by simp) fun i p d hp hd => ?_
   rw [List.getElem?_ofFn] at hp
   split at hp
   ·rename_i hlt
    rw [List.getElem?_map, List.getElem?_range hlt] at hd
    cases hp
    have hd := Option.some.inj hd
    rw [← hd]
    exact (hg ⟨i, hlt⟩).2.1
   ·cases hp
  refine ⟨by rw [IG' hf]; simp, fun _ => ⟨a, rfl⟩, fun ad he j u hu => ?_⟩
  obtain rfl := Option.some.inj he
  have hj : j < len * size := by
   have := (List.getElem?_eq_some_iff.1 hu).1
   rw [IG' hf] at this
   simpa using this
  have hq : j / size < len := by rw [Nat.div_lt_iff_lt_mul h0]; exact hj
  have hd : j / size * size + j % size = j := by rw [Nat.mul_comm]; exact Nat.div_add_mod j size
  have hk : j / size < (List.ofFn g).length := by simpa using hq
  have hp := IZ' hf (List.ofFn g) (j / size) (j % size) hk (Nat.mod_lt _ h0)
  rw [hd, hu] at hp
  have := (hg ⟨j / size, hq⟩).2.2 (j % size) u (by rw [hp]; simp)
  rwa [hd] at this
end Go.Proofs.YtpijbbobejeemaaGreatDoor.Upto
namespace Go.Proofs.YtpijbbobejeemaaGreatDoor.Wit
open Go
theorem row_zip {H : Type} {enc : TypeId × Value → H} {C : Checked} {os : Os} {f : FuncId} {fn : Func} {s : OpenSpec} {conds : List PathCond} {apart : Bool} {laid : List (String × DataW Unit)} (w0 : World) (args : Array Value) (hos : w0.os = os)
  (hv : (w0.forCall (fun _ _ => 0) ⟨#[], args, []⟩).variablesZipB C.prog = true)
  (hr : ((w0.forCall (fun _ _ => 0) ⟨#[], args, []⟩).heap.toList.drop C.prog.globals.size).take ((begin C.prog (fun _ _ => 0) default).world.heap.size - C.prog.globals.size) =
   (begin C.prog (fun _ _ => 0) default).world.heap.toList.drop C.prog.globals.size)
  (hok : Input.okWideB C.prog (w0.forCall (fun _ _ => 0) ⟨#[], args, []⟩) f ⟨#[], args, []⟩ = true)
  (hrow : s.preRow enc C.prog fn conds apart laid (w0.forCall (fun _ _ => 0) ⟨#[], args, []⟩).memory args) :
  ∃ (w : World) (tape : Tape) (i : Input), w.os = os ∧ (w.forCall tape i).Shaped C.prog ∧ i.vars = [] ∧ Input.okWide C.prog (w.forCall tape i) .any w.heap.size f i ∧
   s.preRow enc C.prog fn conds apart laid (w.forCall tape i).memory i.args ∧ ({} : Assume).holds C.prog (lone (Frame.enter C.prog f i.args .normal) [] (w.forCall tape i)) :=
 ⟨w0, fun _ _ => 0, ⟨#[], args, []⟩, hos, World.shaped_of_ZipB hv hr, (Input.okWide_of_okWideB (base := 0) hok).1, (Input.okWide_of_okWideB hok).2, hrow, by
  simp [Assume.holds]⟩
end Go.Proofs.YtpijbbobejeemaaGreatDoor.Wit
namespace Go.Proofs.YtpijbbobejeemaaGreatDoor
open Go.ChangeShapes Go.WideShapes Go.RowKit Go.Deep
namespace Htp
section
variable {H : Type} {enc : TypeId × Value → H} {w : World} {base : Nat} {spare : Nat → Bool} {held : Bool}
theorem gM' {n : Int} (h : (Lit.int .u8 n).wf = true) : 0 ≤ n ∧ n ≤ 255 := by
 simp only [Lit.wf, Bool.and_eq_true, decide_eq_true_eq] at h
 have h1 : IntKind.u8.min = 0 := by decide
 have h2 : IntKind.u8.max = 255 := by decide
 rw [h1, h2] at h
 exact h
theorem T3' {fuel : Nat} {A : Option Addr} {len cap : Nat} {x : DataW H × List MemPlace} (h : DataW.trod enc Tryz.prog w base spare held fuel 26 [.slice A len cap] = some x) :
  ∃ bs : List UInt8, BArg w (.slice A len cap) bs ∧ bs.length + 1 ≤ Rows.uptoBulk x.1 := by
 rcases open_slice1 Tryz.underlying26 (by kernel_rfl) h with ⟨hcs, _⟩ | ⟨a, len', cap', m, n, V, D, Pl, hcs, hb, hl, hm, hmm, hx, hi⟩
 ·simp only [List.cons.injEq, Value.slice.injEq, and_true] at hcs
  obtain ⟨rfl, rfl, rfl⟩ := hcs
  exact ⟨[], .inl ⟨0, rfl, rfl⟩, Upto.one_le x.1⟩
 ·simp only [List.cons.injEq, Value.slice.injEq, and_true] at hcs
  obtain ⟨rfl, rfl, rfl⟩ := hcs
  have hlm : len ≤ m := by rw [hmm]; split <;> omega
  have hall : ∀ i : Fin len, ∃ b : UInt8, w.cell? (a.add i.1) = some (.int .u8 b.toNat) := fun i => by
   obtain ⟨hc, ht⟩ := hi i.1 (by omega)
   obtain ⟨z, e, _, hz⟩ := DataW.trod_int Tryz.underlying5 ht
   obtain ⟨z0, z1⟩ := gM' hz
   refine ⟨UInt8.ofNat z.toNat, ?_⟩
   rw [hc, (List.cons.inj e).1, UInt8.toNat_ofNat']
   congr 2
   omega
  obtain ⟨g, hg⟩ := Classical.axiomOfChoice hall
  refine ⟨List.ofFn g, .inr ⟨a, cap, by simp, by simp; exact hl, fun j b hj => ?_⟩, ?_⟩
  ·rw [List.getElem?_ofFn] at hj
   split at hj
   ·rename_i hlt
    cases hj
    exact hg ⟨j, hlt⟩
   ·cases hj
  ·rw [hx]
   refine Nat.le_trans (Nat.succ_le_succ ?_) (Upto.slice_elems _ _)
   refine Nat.le_trans ?_ (Upto.length_le _)
   simp
end
end Htp
namespace Htp
structure StepR where
 z : Int
 a : Option Addr
 n : Nat
 c : Nat
 bs : List UInt8
def encS2 (p : StepR) : List Value := [.int .i64 p.z, .slice p.a p.n p.c]
theorem encS2_len (p : StepR) : (encS2 p).length = 2 := rfl
def wtS (p : StepR) : Nat := p.bs.length + 1
def stOf (p : StepR) : Int × List UInt8 := (p.z, p.bs)
theorem tot_sum : ∀ l : List StepR, (l.map wtS).sum = (l.map stOf).length + tot (l.map stOf)
 | [] => rfl
 | p :: r => by
  have := tot_sum r
  simp only [List.map_cons, List.sum_cons, List.length_cons, tot, wtS, stOf] at *
  omega
section
variable {H : Type} {enc : TypeId × Value → H} {w : World} {base : Nat} {spare : Nat → Bool} {held : Bool}
theorem cells_step {fuel : Nat} {cs : List Value} {x : DataW H × List MemPlace} (h : DataW.trod enc Tryz.prog w base spare held fuel 28 cs = some x) : ∃ p : StepR, cs = encS2 p ∧ BArg w (.slice p.a p.n p.c) p.bs ∧ wtS p ≤ Rows.uptoBulk x.1 := by
 obtain ⟨ys, n, _, rfl, hlen, hyl, hf⟩ := DataW.trod_struct Tryz.underlying28 h
 have zI : Tryz.prog.cellsOf 3 = 1 := by kernel_rfl
 have zB : Tryz.prog.cellsOf 26 = 1 := by kernel_rfl
 match cs, hlen.trans (by kernel_rfl : Tryz.prog.cellsOf 28 = 2) with
 | [c0, c1], _ =>
  match ys, hyl with
  | [y0, y1], _ =>
   obtain ⟨z, e0, x0, _⟩ := DataW.trod_int Tryz.underlying3 (by simpa [zI] using hf 0 _ rfl : DataW.trod enc Tryz.prog w base spare held n 3 [c0] = some y0)
   obtain rfl := (List.cons.inj e0).1
   have h1 : DataW.trod enc Tryz.prog w base spare held n 26 [c1] = some y1 := by simpa [zB] using hf 1 _ rfl
   have hsl : ∃ A len cap, c1 = .slice A len cap := by
    rcases open_slice1 Tryz.underlying26 (by kernel_rfl) h1 with ⟨hcs, _⟩ | ⟨a, len', cap', m, k, V, D, Pl, hcs, _⟩
    ·exact ⟨_, _, _, (List.cons.inj hcs).1⟩
    ·exact ⟨_, _, _, (List.cons.inj hcs).1⟩
   obtain ⟨A, len, cap, rfl⟩ := hsl
   obtain ⟨bs, hB, hb⟩ := T3' h1
   refine ⟨⟨z, A, len, cap, bs⟩, rfl, hB, ?_⟩
   have h2 : y1.1 ∈ [y0, y1].map (·.1) := by simp
   have := Upto.agg_part h2
   show bs.length + 1 ≤ _
   refine Nat.le_trans hb (Nat.le_trans (Nat.le_succ _) this)
theorem sarg_of_rd {A : Option Addr} {l : List StepR} {cap : Nat} (h : Rd w A l.length 2 (l.flatMap encS2)) (hA : A = none → cap = cap) (hB : ∀ p ∈ l, BArg w (.slice p.a p.n p.c) p.bs) : SArg w (.slice A l.length cap) (l.map stOf) := by
 cases A with
 | none =>
  cases l with
  | nil => exact .inl ⟨cap, rfl, rfl⟩
  | cons x r =>
   obtain ⟨ad, e⟩ := h.here (by simp)
   cases e
 | some sa =>
  refine .inr ⟨sa, cap, by simp, fun i s hs => ?_⟩
  rw [List.getElem?_map] at hs
  cases hp : l[i]? with
  | none => rw [hp] at hs; cases hs
  | some p =>
   rw [hp] at hs
   obtain rfl := Option.some.inj hs
   obtain ⟨hi, hpe⟩ := List.getElem?_eq_some_iff.1 hp
   have hc : ∀ j (v : Value), j < 2 → (encS2 p)[j]? = some v → w.cell? ((sa.add (i * 2)).add j) = some v := by
    intro j v hj hv
    rw [SM']
    refine h.cells sa rfl _ _ ?_
    rw [IZ' encS2_len l i j hi hj, ← hv, hpe]
   exact ⟨hc 0 _ (by decide) rfl, _, _, _, hc 1 _ (by decide) rfl, hB p (List.mem_of_getElem? hp)⟩
end
end Htp
end Go.Proofs.YtpijbbobejeemaaGreatDoor
