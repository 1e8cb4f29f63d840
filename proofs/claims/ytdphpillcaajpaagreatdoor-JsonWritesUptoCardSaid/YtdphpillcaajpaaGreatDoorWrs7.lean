/- Parts of the proof, merged. -/
import Derived.Test.YtdphpillcaajpaaGreatDoorWrs6
import Derived.Test.YtdphpillcaajpaaGreatDoorWrs3
import Derived.Test.YtdphpillcaajpaaGreatDoorWrs5
import Derived.Test.YtdphpillcaajpaaGreatDoorWrs4
import Derived.Test.YtdphpillcaajpaaGreatDoorEngKit
import Derived.Test.YtdphpillcaajpaaGreatDoorEngXWrs
set_option linter.unusedVariables false
set_option linter.unusedSimpArgs false
set_option maxRecDepth 100000
set_option linter.unusedSectionVars false
namespace Go.Proofs.YtdphpillcaajpaaGreatDoor.Js
open Go Go.RowKit Eng Kit
theorem cCh_ok {W : World} (F : HP) (hF : AK' W F) : C1OK Tryz.prog F fCh cCh :=
 BR' (AK'.nothing F) (fun p => iv (Int.ofNat (KI' (bts p.1) p.2))) QQ' (fun _ => rfl) (fun p hp => YA' p.1 p.2 hp.2 hp.1) fun p => ⟨rfl, rfl, ⟨Ye, Ye, Ye⟩, A7', ⟨Ye, Ye⟩, A7'⟩
theorem I2' {W : World} (F : HP) (hF : AK' W F) : ∀ x ∈ conR, C1OK Tryz.prog F x.1 x.2 := AC' (cCh_ok F hF) (AO' (dY' F hF))
theorem UR' (m : ByteArray) : List.take (m.size * 1) (List.drop 0 (vmap (List.map (fun b => Value.int IntKind.u8 (b.toNat : Int)) m.data.toList))) = rowV encB (bts m) := by
 have h : (vmap (List.map (fun b => Value.int IntKind.u8 (b.toNat : Int)) m.data.toList)) = rowV encB (bts m) := (IV' _).symm
 rw [h, List.drop_zero, List.take_of_length_le]
 rw [KZ']
 have : (bts m).length = m.size := rfl
 omega
theorem GN' (m : ByteArray) : (List.take (m.size * 1) (List.drop 0 (vmap (List.map (fun b => Value.int IntKind.u8 (b.toNat : Int)) m.data.toList)))).length.beq (m.size * 1) = true := by
 rw [UR', KZ']
 have : (bts m).length = m.size * 1 := (Nat.mul_one _).symm
 rw [this]; exact Nat.beq_refl _
theorem K1' (m : ByteArray) : (List.take (m.size * 1) (List.drop 0 (vmap (List.map (fun b => Value.int IntKind.u8 (b.toNat : Int)) m.data.toList)))).all AV.one = true := by
 rw [UR']
 have := Q6' (bts m)
 rw [← IV'] at this
 exact this
theorem K2' {P : List UInt8} {m : ByteArray} : OW (AO.cells (List.take (P.length * 1) (List.drop 0 (rowV encB P)) ++ List.take (m.size * 1) (List.drop 0 (vmap (List.map (fun b => Value.int IntKind.u8 (b.toNat : Int)) m.data.toList)))) tByt) (AO.cells (rowV encB (P ++ bts m)) tByt) := by
 rw [UR', LO' rfl]; exact Yc
theorem M9' (a : List UInt8) (h m : ByteArray) (e : a ++ bts h = bts m) : Wk (AV.v (.string (ByteArray.mk a.toArray ++ h))) (AV.v (.string m)) := by
 have : ByteArray.mk a.toArray ++ h = m := CV' (by
  refine Eq.trans ?_ e
  show (ByteArray.mk a.toArray ++ h).data.toList = a ++ h.data.toList
  simp)
 rw [this]; exact Ya
theorem UJ' (s m : ByteArray) (i j : Nat) (hij : i ≤ j) (e : ((bts s).drop i).take (j - i) = bts m) : Wk (AV.v (.string (s.extract i j))) (AV.v (.string m)) := by
 have : s.extract i j = m := CV' (by
  refine Eq.trans ?_ e
  show (s.extract i j).data.toList = ((s.data.toList).drop i).take (j - i)
  rw [ByteArray.data_extract, Array.toList_extract, List.extract_eq_take_drop])
 rw [this]; exact Ya
theorem YE' (c : UInt8) (h : ByteArray) (e : hx c = bts h) : Wk (AV.v (Value.string (tB [hd ((UInt8.ofNat ((c.toNat : Nat) : Int).toNat).toNat / 16), hd ((UInt8.ofNat ((c.toNat : Nat) : Int).toNat).toNat % 16)]))) (AV.v (Value.string h)) := by
 have : tB [hd ((UInt8.ofNat ((c.toNat : Nat) : Int).toNat).toNat / 16), hd ((UInt8.ofNat ((c.toNat : Nat) : Int).toNat).toNat % 16)] = h := by
  rw [Int.toNat_natCast, UInt8.ofNat_toNat]
  exact CV' ((B4' _).trans e)
 rw [this]; exact Ya
theorem XP' {l : List UInt8} (h : errQ l = true) : dN l = 1 := by
 unfold errQ at h
 rw [Bool.and_eq_true] at h
 exact Int.ofNat.inj (beq_iff_eq.1 h.2)
set_option maxHeartbeats 2000000 in
theorem ZQ' (s : ByteArray) (hs : Few s.size) (P0 R : List UInt8) (hRR : P0 ++ qL (bts s) = R) (hl : R.length ≤ 1000000000) :
  LTri Tryz.prog default (A2' fRQ 3) (tms 0 64 (aR s P0.length 0)) (oR P0) (.exit 0) (tms 0 64 [(3, sB 1000 R.length)]) (oR R) := by
 refine BW' (W := default) (g := fRQ) (b := A2' fRQ 3) (σ := {p : Nat × List UInt8 // p.1 ≤ s.size ∧ p.2 ++ qL ((bts s).drop p.1) = R}) 64 (fun p => aR s p.1.2.length p.1.1) (fun p => oR p.1.2) (.exit 0) [(3, sB 1000 R.length)] (oR R) (fun p => s.size - p.1.1) [1000, 1100, 1101] [0, 3, 4] (by intro h; cases h) (fun _ => rfl) rfl ?_ ⟨(0, P0), Nat.zero_le _, hRR⟩
 rintro ⟨⟨i, P⟩, hi, hE⟩
 simp only at hi hE ⊢
 have hlen : (bts s).length = s.size := rfl
 by_cases h1 : i < s.size
 ·obtain ⟨c, hc⟩ : ∃ c, (bts s).getD i 0 = c := ⟨_, rfl⟩
  have hg : (bts s)[i]? = some c := by rw [K6' h1, hc]
  have hby := HJ' hc
  have hdr : (bts s).drop i = c :: (bts s).drop (i + 1) := I0' hg
  have hE2 := hE
  rw [hdr, JG', ← hdr] at hE2
  rw [List.drop_drop] at hE2
  have hdN1 := L8' ((bts s).drop i)
  have hdN2 := UQ' ((bts s).drop i) (by rw [List.length_drop]; omega)
  rw [List.length_drop, hlen] at hdN2
  obtain ⟨m, hm⟩ : ∃ m : ByteArray, bts m = CF' c ((bts s).drop i) := ⟨tB (CF' c ((bts s).drop i)), B4' _⟩
  have hck := (K4' c ((bts s).drop i) (by rw [List.length_drop]; omega)).2
  rw [← hm] at hck hE2
  have hm0 : 0 < m.size := hck
  have hml : (bts m).length = m.size := rfl
  have hinv : (P ++ bts m) ++ qL ((bts s).drop (i + dN ((bts s).drop i))) = R := by rw [List.append_assoc]; exact hE2
  have hRl := congrArg List.length hinv
  simp only [List.length_append] at hRl
  have hj1 : i + dN ((bts s).drop i) ≤ s.size := by omega
  have e1 := ltTC h1
  have p0 : i < s.size ∧ Few s.size := ⟨h1, hs⟩
  have p1 := IO' (P := P) rfl
  have p2 : ((P.length + m.size) * 1).ble 140737488355328 = true := by rw [Nat.ble_eq]; omega
  have p3 : (P.length + m.size).ble 9223372036854775807 = true := by rw [Nat.ble_eq]; omega
  have p4 := CX' (P := P) rfl
  have p5 : Wk (AV.slice 1101 0 (P.length + m.size) 1 (Cp.lo (P.length + m.size))) (AV.slice 1101 0 (P ++ bts m).length 1 (Cp.lo (P ++ bts m).length)) := by rw [List.length_append]; exact Ya
  have q1 := GN' m
  have q2 := K1' m
  have q3 := K2' (P := P) (m := m)
  have q4 : m.size.ble m.size = true := by rw [Nat.ble_eq]; exact Yd
  have hms : m.size ≤ 1000000000 := by omega
  obtain ⟨j, hj⟩ : ∃ j, i + dN ((bts s).drop i) = j := ⟨_, rfl⟩
  rw [hj] at hinv hj1
  have hn := UU' (bts s) i
  have wj : ∀ n, dN ((bts s).drop i) = n → Wk (AV.v (.int .i64 (IntKind.i64.wrap (Int.ofNat i + Int.ofNat n)))) (AV.v (.int .i64 (Int.ofNat j))) := fun n hn => HP' j (by rw [← hj, hn]; rfl) (by unfold Few at hs; omega)
  have c256 : Int.ofNat 0 ≤ (c.toNat : Int) ∧ (c.toNat : Int) < Int.ofNat 256 := by have := c.toNat_lt; simp only [Z0]; omega
  by_cases hE0 : errQ ((bts s).drop i) = true
  ·rw [if_pos hE0] at hn
   have hone := XP' hE0
   have hcm : CF' c ((bts s).drop i) = [92, 117, 100, 99] ++ hx c := by unfold CF'; rw [if_pos hE0]
   have r1 := YE' c (tB (hx c)) (B4' _).symm
   have r2 := M9' [92, 117, 100, 99] (tB (hx c)) m (by rw [show bts (tB (hx c)) = hx c from B4' _, hm, hcm])
   have r3 : Wk (AV.v (.int .i64 (Int.ofNat (KI' (bts s) i)))) (AV.v (.int .i64 (Int.ofNat 0))) := by rw [hn]; exact Ya
   have hhs : 4 + (tB (hx c)).size ≤ 9223372036854775807 := by rw [AW', L4']; omega
   have wj1 := wj 1 hone
   refine ⟨conR, hR i 0 j (P ++ bts m).length c true false false false (tB (hx c)) m (P ++ bts m), [], fun F hF => I2' F hF, fun _ _ => noL, fun F => ?_⟩
   refine Yj (aX' s i 0 j (P ++ bts m).length c (tB (hx c)) m P (P ++ bts m) F) ⟨⟨?_, rfl, .inl ⟨rfl, ⟨(j, P ++ bts m), hj1, hinv⟩, by show s.size - j < s.size - i; omega, [(1000, 1101)], by kernel_rfl, by kernel_rfl, ⟨Ya, Ya, Ya, Ye⟩, ⟨_, rfl, H6' rfl rfl⟩, Ye⟩⟩⟩
   simp only [Cnd.holds, Nat.blt_eq, true_and, and_true]
   and_intros
   all_goals first
    | (with_reducible exact A0' e1)
    | (with_reducible exact p0)
    | (with_reducible exact p1)
    | (with_reducible exact p2)
    | (with_reducible exact p3)
    | (with_reducible exact p4)
    | (with_reducible exact p5)
    | (with_reducible exact q1)
    | (with_reducible exact q2)
    | exact q3
    | (with_reducible exact q4)
    | (with_reducible exact hm0)
    | (with_reducible exact h1)
    | (with_reducible exact r3)
    | (with_reducible exact c256.1)
    | (with_reducible exact c256.2)
    | (with_reducible exact c256)
    | (with_reducible exact r1)
    | exact r2
    | (with_reducible exact hhs)
    | (with_reducible exact wj1)
    | exact A0' rfl
    | exact hby
    | exact hs | (with_reducible first | exact Ye | exact Yf | exact A4' _ | assumption) | exact Yf | ((repeat (first | exact VW.nil | refine Yg ?_ | refine Yh ?_ | refine Yi ?_)); done)
  ·have hEf := Bool.eq_false_iff.2 hE0
   rw [if_neg hE0] at hn
   obtain ⟨n, hnn⟩ : ∃ n, dN ((bts s).drop i) = n := ⟨_, rfl⟩
   have r3 : Wk (AV.v (.int .i64 (Int.ofNat (KI' (bts s) i)))) (AV.v (.int .i64 (Int.ofNat n))) := by rw [hn, hnn]; exact Ya
   have rz : (Int.ofNat n == Int.ofNat 0) = false := beq_eq_false_iff_ne.2 (fun h => by have := Int.ofNat.inj h; omega)
   have wjn := wj n hnn
   have w1 := AU' hs h1
   have hbo : s.size - j < s.size - i := by omega
   have x1 : i ≤ i + 1 := Nat.le_succ _
   have hx2 : i + 1 ≤ s.size := h1
   have hx1 : ((bts s).drop i).take (i + 1 - i) = bts (tB [c]) := by
    rw [show bts (tB [c]) = [c] from B4' _, hdr, show i + 1 - i = 1 by omega]; rfl
   have x2 := UJ' s (tB [c]) i (i + 1) x1 hx1
   have x3 : 1 + (tB [c]).size ≤ 9223372036854775807 := by rw [AW']; simp only [List.length_cons, List.length_nil]; omega
   by_cases hq : c = 34
   ·have hcm : CF' c ((bts s).drop i) = [92, c] := by unfold CF'; rw [if_neg hE0, if_pos (.inl hq)]
    have r2 := M9' [92] (tB [c]) m (by rw [show bts (tB [c]) = [c] from B4' _, hm, hcm]; rfl)
    have t1 := eqB (x := c) (c := 34) (n := 34) (by decide) rfl hq
    refine ⟨conR, hR i n j (P ++ bts m).length c false true false false (tB [c]) m (P ++ bts m), [], fun F hF => I2' F hF, fun _ _ => noL, fun F => ?_⟩
    refine Yj (aW' s i n j (P ++ bts m).length c (tB [c]) m P (P ++ bts m) F) ⟨⟨?_, rfl, .inl ⟨rfl, ⟨(j, P ++ bts m), hj1, hinv⟩, hbo, [(1000, 1101)], by kernel_rfl, by kernel_rfl, ⟨Ya, Ya, Ya, Ye⟩, ⟨_, rfl, H6' rfl rfl⟩, Ye⟩⟩⟩
    simp only [Cnd.holds, Nat.blt_eq, true_and, and_true]
    and_intros
    all_goals first
     | (with_reducible exact A0' e1)
     | (with_reducible exact p0)
     | (with_reducible exact p1)
     | (with_reducible exact p2)
     | (with_reducible exact p3)
     | (with_reducible exact p4)
     | (with_reducible exact p5)
     | (with_reducible exact q1)
     | (with_reducible exact q2)
     | exact q3
     | (with_reducible exact q4)
     | (with_reducible exact hm0)
     | (with_reducible exact h1)
     | (with_reducible exact r3)
     | (with_reducible exact A0' rz)
     | (with_reducible exact A0' t1)
     | (with_reducible exact AP' w1)
     | (with_reducible exact x1)
     | (with_reducible exact x2)
     | (with_reducible exact x3)
     | exact r2
     | (with_reducible exact wjn)
     | exact hby
     | exact hs
     | (with_reducible exact hx2) | (with_reducible first | exact Ye | exact Yf | exact A4' _ | assumption) | exact Yf | ((repeat (first | exact VW.nil | refine Yg ?_ | refine Yh ?_ | refine Yi ?_)); done)
   have t1 := neB (x := c) (c := 34) (n := 34) (by decide) rfl hq
   by_cases hb : c = 92
   ·have hcm : CF' c ((bts s).drop i) = [92, c] := by unfold CF'; rw [if_neg hE0, if_pos (.inr hb)]
    have r2 := M9' [92] (tB [c]) m (by rw [show bts (tB [c]) = [c] from B4' _, hm, hcm]; rfl)
    have t2 := eqB (x := c) (c := 92) (n := 92) (by decide) rfl hb
    refine ⟨conR, hR i n j (P ++ bts m).length c false false true false (tB [c]) m (P ++ bts m), [], fun F hF => I2' F hF, fun _ _ => noL, fun F => ?_⟩
    refine Yj (b0' s i n j (P ++ bts m).length c (tB [c]) m P (P ++ bts m) F) ⟨⟨?_, rfl, .inl ⟨rfl, ⟨(j, P ++ bts m), hj1, hinv⟩, hbo, [(1000, 1101)], by kernel_rfl, by kernel_rfl, ⟨Ya, Ya, Ya, Ye⟩, ⟨_, rfl, H6' rfl rfl⟩, Ye⟩⟩⟩
    simp only [Cnd.holds, Nat.blt_eq, true_and, and_true]
    and_intros
    all_goals first
     | (with_reducible exact A0' e1)
     | (with_reducible exact p0)
     | (with_reducible exact p1)
     | (with_reducible exact p2)
     | (with_reducible exact p3)
     | (with_reducible exact p4)
     | (with_reducible exact p5)
     | (with_reducible exact q1)
     | (with_reducible exact q2)
     | exact q3
     | (with_reducible exact q4)
     | (with_reducible exact hm0)
     | (with_reducible exact h1)
     | (with_reducible exact r3)
     | (with_reducible exact A0' rz)
     | (with_reducible exact A0' t1)
     | (with_reducible exact A0' t2)
     | (with_reducible exact AP' w1)
     | (with_reducible exact x1)
     | (with_reducible exact x2)
     | (with_reducible exact x3)
     | exact r2
     | (with_reducible exact wjn)
     | exact hby
     | exact hs
     | (with_reducible exact hx2) | (with_reducible first | exact Ye | exact Yf | exact A4' _ | assumption) | exact Yf | ((repeat (first | exact VW.nil | refine Yg ?_ | refine Yh ?_ | refine Yi ?_)); done)
   have t2 := neB (x := c) (c := 92) (n := 92) (by decide) rfl hb
   by_cases hl3 : c.toNat < 32
   ·have hcm : CF' c ((bts s).drop i) = [92, 117, 48, 48] ++ hx c := by unfold CF'; rw [if_neg hE0, if_neg (fun h => h.elim hq hb), if_pos hl3]
    have r1 := YE' c (tB (hx c)) (B4' _).symm
    have r2 := M9' [92, 117, 48, 48] (tB (hx c)) m (by rw [show bts (tB (hx c)) = hx c from B4' _, hm, hcm])
    have hhs : 4 + (tB (hx c)).size ≤ 9223372036854775807 := by rw [AW', L4']; omega
    have t3 : decide ((c.toNat : Int) < Int.ofNat 32) = true := decide_eq_true (by simp only [Z0]; omega)
    refine ⟨conR, hR i n j (P ++ bts m).length c false false false true (tB (hx c)) m (P ++ bts m), [], fun F hF => I2' F hF, fun _ _ => noL, fun F => ?_⟩
    refine Yj (aZ' s i n j (P ++ bts m).length c (tB (hx c)) m P (P ++ bts m) F) ⟨⟨?_, rfl, .inl ⟨rfl, ⟨(j, P ++ bts m), hj1, hinv⟩, hbo, [(1000, 1101)], by kernel_rfl, by kernel_rfl, ⟨Ya, Ya, Ya, Ye⟩, ⟨_, rfl, H6' rfl rfl⟩, Ye⟩⟩⟩
    simp only [Cnd.holds, Nat.blt_eq, true_and, and_true]
    and_intros
    all_goals first
     | (with_reducible exact A0' e1)
     | (with_reducible exact p0)
     | (with_reducible exact p1)
     | (with_reducible exact p2)
     | (with_reducible exact p3)
     | (with_reducible exact p4)
     | (with_reducible exact p5)
     | (with_reducible exact q1)
     | (with_reducible exact q2)
     | exact q3
     | (with_reducible exact q4)
     | (with_reducible exact hm0)
     | (with_reducible exact h1)
     | (with_reducible exact r3)
     | (with_reducible exact A0' rz)
     | (with_reducible exact A0' t1)
     | (with_reducible exact A0' t2)
     | (with_reducible exact A0' t3)
     | (with_reducible exact c256.1)
     | (with_reducible exact c256.2)
     | (with_reducible exact c256)
     | (with_reducible exact r1)
     | exact r2
     | (with_reducible exact hhs)
     | (with_reducible exact wjn)
     | exact hby
     | exact hs
     | (with_reducible exact hx2) | (with_reducible first | exact Ye | exact Yf | exact A4' _ | assumption) | exact Yf | ((repeat (first | exact VW.nil | refine Yg ?_ | refine Yh ?_ | refine Yi ?_)); done)
   ·have hcm : CF' c ((bts s).drop i) = ((bts s).drop i).take n := by unfold CF'; rw [if_neg hE0, if_neg (fun h => h.elim hq hb), if_neg hl3, hnn]
    have t3 : decide ((c.toNat : Int) < Int.ofNat 32) = false := decide_eq_false (by simp only [Z0]; omega)
    have y1 : i ≤ j := by omega
    have y2 := UJ' s m i j y1 (by rw [hm, hcm, ← hj, hnn, Nat.add_sub_cancel_left])
    refine ⟨conR, hR i n j (P ++ bts m).length c false false false false nil0 m (P ++ bts m), [], fun F hF => I2' F hF, fun _ _ => noL, fun F => ?_⟩
    refine Yj (aY' s i n j (P ++ bts m).length c nil0 m P (P ++ bts m) F) ⟨⟨?_, rfl, .inl ⟨rfl, ⟨(j, P ++ bts m), hj1, hinv⟩, hbo, [(1000, 1101)], by kernel_rfl, by kernel_rfl, ⟨Ya, Ya, Ya, Ye⟩, ⟨_, rfl, H6' rfl rfl⟩, Ye⟩⟩⟩
    simp only [Cnd.holds, Nat.blt_eq, true_and, and_true]
    and_intros
    all_goals first
     | (with_reducible exact A0' e1)
     | (with_reducible exact p0)
     | (with_reducible exact p1)
     | (with_reducible exact p2)
     | (with_reducible exact p3)
     | (with_reducible exact p4)
     | (with_reducible exact p5)
     | (with_reducible exact q1)
     | (with_reducible exact q2)
     | exact q3
     | (with_reducible exact q4)
     | (with_reducible exact hm0)
     | (with_reducible exact h1)
     | (with_reducible exact r3)
     | (with_reducible exact A0' rz)
     | (with_reducible exact A0' t1)
     | (with_reducible exact A0' t2)
     | (with_reducible exact A0' t3)
     | (with_reducible exact y1)
     | (with_reducible exact y2)
     | (with_reducible exact hj1)
     | (with_reducible exact wjn)
     | exact hby
     | exact hs
     | (with_reducible exact hx2) | (with_reducible first | exact Ye | exact Yf | exact A4' _ | assumption) | exact Yf | ((repeat (first | exact VW.nil | refine Yg ?_ | refine Yh ?_ | refine Yi ?_)); done)
 ·have hie : i = s.size := by omega
  subst hie
  rw [← hlen, List.drop_length, qL, List.append_nil] at hE
  subst hE
  have e1 : decide (Int.ofNat s.size < (s.size : Int)) = false := decide_eq_false (by simp only [Z0]; omega)
  refine ⟨conR, A9' [(fRQ, 3, 3, hv (.lit false))], [], fun F hF => I2' F hF, fun _ _ => noL, fun F => ?_⟩
  refine Yj (aV' s s.size P F) ⟨⟨?_, rfl, .inr ⟨rfl, [(1000, 1000)], by kernel_rfl, by kernel_rfl, ⟨Ya, Ye⟩, ⟨_, rfl, H6' rfl rfl⟩, Ye⟩⟩⟩
  simp only [Cnd.holds, Nat.blt_eq, true_and, and_true]
  and_intros
  all_goals first
   | exact A0' e1 | (with_reducible first | exact Ye | exact Yf | exact A4' _ | assumption) | exact Yf | ((repeat (first | exact VW.nil | refine Yg ?_ | refine Yh ?_ | refine Yi ?_)); done)
noncomputable section
abbrev fwr : Nat := 19
abbrev fFB : Nat := 36
def AM' (t : List UInt8) : List UInt8 := [34] ++ qL t ++ [34]
def cQt : List AV → Option (AP AV) := mkC gWS (fun q => q.s.size + (AM' (bts q.t)).length ≤ 999998000) (fun q _ => q.o) (fun q => [.ptr 0 0, sv q.t]) (fun q => [(0, bldO q.s)]) (fun q => .leaf .ret [.tuple []] [(0, bldO (cat q.s (tB (AM' (bts q.t)))))])
def fbT (b : Bool) : ByteArray := tB (Lib.formatBool b)
def g1b : List AV → Option Bool
 | [.v (.bool b)] => some b
 | _ => none
def cFB : List AV → Option (AP AV) := vC g1b (fun _ => True) (fun b => sv (fbT b))
def BL' (f : Jv → List UInt8) (obj : Bool) (names : List ByteArray) : Nat → List Jv → List UInt8
 | _, [] => []
 | j, x :: xs => ((if 0 < j then [44] else []) ++ ((if obj then AM' (bts (names.getD j nil0)) ++ [58] else []) ++ f x)) ++ BL' f obj names (j + 1) xs
def B3' : Nat → Jv → List UInt8
 | 0, _ => []
 | L + 1, v => if v.kind = 1 then [110, 117, 108, 108] else if v.kind = 2 then bts (fbT (v.num == Int.ofNat 1)) else if v.kind = 3 then bts v.text else if v.kind = 4 then AM' (bts v.text)
  else if v.kind = 5 then [91] ++ (BL' (B3' L) false v.names 0 v.list ++ [93]) else [123] ++ (BL' (B3' L) true v.names 0 v.list ++ [125])
def addT (s : ByteArray) (l : List UInt8) : ByteArray := cat s (tB l)
def gwr : List AV → AP BS := fun args => match args with
 | [.ptr a _, _] => gOwn a 0 nil0 0
 | _ => .fail "write"
def cwr (x : Rj) (l : List UInt8) : List AV → Option (AP AV) := mkC gwr (fun q => q.s.size + l.length ≤ 999998000) (fun q _ => q.o) (fun q => [.ptr 0 0, aggJ x]) (fun q => [(0, bldO q.s)]) (fun q => .leaf .ret [.tuple []] [(0, bldO (addT q.s l))])
def conW (x : Rj) (l : List UInt8) : HN' := [(fQ, cQt), (fWS, cWS), (fWB, cWB), (fwr, cwr x l), (fFB, cFB)]
def I1' : HN' := [(fQ, cQt), (fWS, cWS), (fWB, cWB), (fFB, cFB)]
def oW (s : ByteArray) (r : Rj) : LH := [(0, bldO s), (1000, .cells (vmap r.cells) tJs)]
def aW (r : Rj) (g : ByteArray) (j : Nat) : List (Nat × AV) := [(0, .ptr 0 0), (3, .ptr 1000 0), (4, sv g), (17, slV r.la r.ll r.lc), (18, iv (Int.ofNat r.ll)), (19, iv (Int.ofNat j))]
def iW : List Nat := [0, 3, 4, 17, 18, 19]
def hW (more obj : Bool) (j : Nat) (x : Rj) (nm : ByteArray) : B8' := A9' [(fwr, 7, 0, hv (.lit true)), (fwr, 8, 2, hv (aggJ x)), (fwr, 9, 1, hv (.lit more)), (fwr, 11, 2, hv (.lit obj)), (fwr, 12, 5, hv (sv nm)), (fwr, 15, 0, hv (iv (Int.ofNat (j + 1))))]
noncomputable section
abbrev k93' (q0 : Nat) : Cnd := (f' (Wk (b' (decide (Int.ofNat q0 > Int.ofNat 0))) g'))
end
theorem aF' (W : World) (s g : ByteArray) (r x : Rj) (l : List UInt8) (a : Addr) (j : Nat) (F : HP) : AR' (conW x l) (hW false false j x nil0) [] W fwr (A2' fwr 7) (tms 0 72 (aW { r with la := some a } g j)) (oW s { r with la := some a }) [0, 1000] iW F = VT.leaf (AX.normal,[AV.ptr 0 0,AV.ptr 1000 0,s' g,AV.v (Value.slice (some a) r.ll r.lc),i' r.ll,i' (j + 1)],72) [some (AO.own (Md.text (addT s l)) (exHP (bldR (addT s l)) bldL)),some (AO.cells [z' r.k,z' r.n,s' r.t,AV.v (Value.slice (some a) r.ll r.lc),AV.v (Value.slice r.na r.nl r.nc)] 50)] 1101 ((k66' j r).a ((k58' j r).a ((k67' W a j x).a (k8'.a ((k93' j).a ((k61' r).a ((k73' r).a ((k68' x).a (((p' (s.size + l.length ≤ 999998000)).a ((p' (VW [AV.ptr 0 0,AV.agg [z' x.k,z' x.n,s' x.t,AV.v (Value.slice x.la x.ll x.lc),AV.v (Value.slice x.na x.nl x.nc)]] [AV.ptr 0 0,AV.agg [z' x.k,z' x.n,s' x.t,AV.v (Value.slice x.la x.ll x.lc),AV.v (Value.slice x.na x.nl x.nc)]])).a (f' (OW (AO.own (Md.text s) (exHP (bldR s) bldL)) (AO.own (Md.text s) (exHP (bldR s) bldL)))))).a ((k7' j).a t')))))))))) := by kernel_rfl
noncomputable section
abbrev k94' (q0 : Nat) : Cnd := (f' (Wk (b' (decide (Int.ofNat q0 > Int.ofNat 0))) j'))
abbrev k95' (q0 : ByteArray) : Cnd := ((p' (fitB q0)).a ((p' (VW [AV.ptr 0 0,AV.v (Value.int IntKind.u8 (Int.ofNat 44))] [AV.ptr 0 0,AV.v (Value.int IntKind.u8 (Int.ofNat 44))])).a (f' (OW (AO.own (Md.text q0) (exHP (bldR q0) bldL)) (AO.own (Md.text q0) (exHP (bldR q0) bldL))))))
end
theorem aE' (W : World) (s g : ByteArray) (r x : Rj) (l : List UInt8) (a : Addr) (j : Nat) (F : HP) : AR' (conW x l) (hW true false j x nil0) [] W fwr (A2' fwr 7) (tms 0 72 (aW { r with la := some a } g j)) (oW s { r with la := some a }) [0, 1000] iW F = VT.leaf (AX.normal,[AV.ptr 0 0,AV.ptr 1000 0,s' g,AV.v (Value.slice (some a) r.ll r.lc),i' r.ll,i' (j + 1)],72) [some (AO.own (Md.text (addT (cat s (oneB (UInt8.ofNat 44))) l)) (exHP (bldR (addT (cat s (oneB (UInt8.ofNat 44))) l)) bldL)),some (AO.cells [z' r.k,z' r.n,s' r.t,AV.v (Value.slice (some a) r.ll r.lc),AV.v (Value.slice r.na r.nl r.nc)] 50)] 1101 ((k66' j r).a ((k58' j r).a ((k67' W a j x).a (k8'.a ((k94' j).a ((k95' s).a ((k61' r).a ((k73' r).a ((k68' x).a (((p' ((cat s (oneB (UInt8.ofNat 44))).size + l.length ≤ 999998000)).a ((p' (VW [AV.ptr 0 0,AV.agg [z' x.k,z' x.n,s' x.t,AV.v (Value.slice x.la x.ll x.lc),AV.v (Value.slice x.na x.nl x.nc)]] [AV.ptr 0 0,AV.agg [z' x.k,z' x.n,s' x.t,AV.v (Value.slice x.la x.ll x.lc),AV.v (Value.slice x.na x.nl x.nc)]])).a (f' (OW (AO.own (Md.text (cat s (oneB (UInt8.ofNat 44)))) (exHP (bldR (cat s (oneB (UInt8.ofNat 44)))) bldL)) (AO.own (Md.text (cat s (oneB (UInt8.ofNat 44)))) (exHP (bldR (cat s (oneB (UInt8.ofNat 44)))) bldL)))))).a ((k7' j).a t'))))))))))) := by kernel_rfl
noncomputable section
abbrev k96' (q0 : Rj) : Cnd := (f' (Wk (b' (q0.k == Int.ofNat 6)) j'))
end
theorem aD' (W : World) (s g : ByteArray) (r x : Rj) (l : List UInt8) (nm : ByteArray) (a b : Addr) (j : Nat) (F : HP) : AR' (conW x l) (hW false true j x nm) [] W fwr (A2' fwr 7) (tms 0 72 (aW { r with la := some a, na := some b } g j)) (oW s { r with la := some a, na := some b }) [0, 1000] iW F = VT.leaf (AX.normal,[AV.ptr 0 0,AV.ptr 1000 0,s' g,AV.v (Value.slice (some a) r.ll r.lc),i' r.ll,i' (j + 1)],72) [some (AO.own (Md.text (addT (cat (cat s (tB (AM' (bts nm)))) (oneB (UInt8.ofNat 58))) l)) (exHP (bldR (addT (cat (cat s (tB (AM' (bts nm)))) (oneB (UInt8.ofNat 58))) l)) bldL)),some (AO.cells [z' r.k,z' r.n,s' r.t,AV.v (Value.slice (some a) r.ll r.lc),AV.v (Value.slice (some b) r.nl r.nc)] 50)] 1101 ((k66' j r).a ((k58' j r).a ((k67' W a j x).a (k8'.a ((k93' j).a ((k61' r).a ((k96' r).a (k8'.a ((k55' j r).a ((k56' W b j nm).a (((p' (s.size + (AM' (bts nm)).length ≤ 999998000)).a ((p' (VW [AV.ptr 0 0,s' nm] [AV.ptr 0 0,s' nm])).a (f' (OW (AO.own (Md.text s) (exHP (bldR s) bldL)) (AO.own (Md.text s) (exHP (bldR s) bldL)))))).a (((p' (fitB (cat s (tB (AM' (bts nm)))))).a ((p' (VW [AV.ptr 0 0,AV.v (Value.int IntKind.u8 (Int.ofNat 58))] [AV.ptr 0 0,AV.v (Value.int IntKind.u8 (Int.ofNat 58))])).a (f' (OW (AO.own (Md.text (cat s (tB (AM' (bts nm))))) (exHP (bldR (cat s (tB (AM' (bts nm))))) bldL)) (AO.own (Md.text (cat s (tB (AM' (bts nm))))) (exHP (bldR (cat s (tB (AM' (bts nm))))) bldL)))))).a ((k68' x).a (((p' ((cat (cat s (tB (AM' (bts nm)))) (oneB (UInt8.ofNat 58))).size + l.length ≤ 999998000)).a ((p' (VW [AV.ptr 0 0,AV.agg [z' x.k,z' x.n,s' x.t,AV.v (Value.slice x.la x.ll x.lc),AV.v (Value.slice x.na x.nl x.nc)]] [AV.ptr 0 0,AV.agg [z' x.k,z' x.n,s' x.t,AV.v (Value.slice x.la x.ll x.lc),AV.v (Value.slice x.na x.nl x.nc)]])).a (f' (OW (AO.own (Md.text (cat (cat s (tB (AM' (bts nm)))) (oneB (UInt8.ofNat 58)))) (exHP (bldR (cat (cat s (tB (AM' (bts nm)))) (oneB (UInt8.ofNat 58)))) bldL)) (AO.own (Md.text (cat (cat s (tB (AM' (bts nm)))) (oneB (UInt8.ofNat 58)))) (exHP (bldR (cat (cat s (tB (AM' (bts nm)))) (oneB (UInt8.ofNat 58)))) bldL)))))).a ((k7' j).a t'))))))))))))))) := by kernel_rfl
theorem aC' (W : World) (s g : ByteArray) (r x : Rj) (l : List UInt8) (nm : ByteArray) (a b : Addr) (j : Nat) (F : HP) : AR' (conW x l) (hW true true j x nm) [] W fwr (A2' fwr 7) (tms 0 72 (aW { r with la := some a, na := some b } g j)) (oW s { r with la := some a, na := some b }) [0, 1000] iW F = VT.leaf (AX.normal,[AV.ptr 0 0,AV.ptr 1000 0,s' g,AV.v (Value.slice (some a) r.ll r.lc),i' r.ll,i' (j + 1)],72) [some (AO.own (Md.text (addT (cat (cat (cat s (oneB (UInt8.ofNat 44))) (tB (AM' (bts nm)))) (oneB (UInt8.ofNat 58))) l)) (exHP (bldR (addT (cat (cat (cat s (oneB (UInt8.ofNat 44))) (tB (AM' (bts nm)))) (oneB (UInt8.ofNat 58))) l)) bldL)),some (AO.cells [z' r.k,z' r.n,s' r.t,AV.v (Value.slice (some a) r.ll r.lc),AV.v (Value.slice (some b) r.nl r.nc)] 50)] 1101 ((k66' j r).a ((k58' j r).a ((k67' W a j x).a (k8'.a ((k94' j).a ((k95' s).a ((k61' r).a ((k96' r).a (k8'.a ((k55' j r).a ((k56' W b j nm).a (((p' ((cat s (oneB (UInt8.ofNat 44))).size + (AM' (bts nm)).length ≤ 999998000)).a ((p' (VW [AV.ptr 0 0,s' nm] [AV.ptr 0 0,s' nm])).a (f' (OW (AO.own (Md.text (cat s (oneB (UInt8.ofNat 44)))) (exHP (bldR (cat s (oneB (UInt8.ofNat 44)))) bldL)) (AO.own (Md.text (cat s (oneB (UInt8.ofNat 44)))) (exHP (bldR (cat s (oneB (UInt8.ofNat 44)))) bldL)))))).a (((p' (fitB (cat (cat s (oneB (UInt8.ofNat 44))) (tB (AM' (bts nm)))))).a ((p' (VW [AV.ptr 0 0,AV.v (Value.int IntKind.u8 (Int.ofNat 58))] [AV.ptr 0 0,AV.v (Value.int IntKind.u8 (Int.ofNat 58))])).a (f' (OW (AO.own (Md.text (cat (cat s (oneB (UInt8.ofNat 44))) (tB (AM' (bts nm))))) (exHP (bldR (cat (cat s (oneB (UInt8.ofNat 44))) (tB (AM' (bts nm))))) bldL)) (AO.own (Md.text (cat (cat s (oneB (UInt8.ofNat 44))) (tB (AM' (bts nm))))) (exHP (bldR (cat (cat s (oneB (UInt8.ofNat 44))) (tB (AM' (bts nm))))) bldL)))))).a ((k68' x).a (((p' ((cat (cat (cat s (oneB (UInt8.ofNat 44))) (tB (AM' (bts nm)))) (oneB (UInt8.ofNat 58))).size + l.length ≤ 999998000)).a ((p' (VW [AV.ptr 0 0,AV.agg [z' x.k,z' x.n,s' x.t,AV.v (Value.slice x.la x.ll x.lc),AV.v (Value.slice x.na x.nl x.nc)]] [AV.ptr 0 0,AV.agg [z' x.k,z' x.n,s' x.t,AV.v (Value.slice x.la x.ll x.lc),AV.v (Value.slice x.na x.nl x.nc)]])).a (f' (OW (AO.own (Md.text (cat (cat (cat s (oneB (UInt8.ofNat 44))) (tB (AM' (bts nm)))) (oneB (UInt8.ofNat 58)))) (exHP (bldR (cat (cat (cat s (oneB (UInt8.ofNat 44))) (tB (AM' (bts nm)))) (oneB (UInt8.ofNat 58)))) bldL)) (AO.own (Md.text (cat (cat (cat s (oneB (UInt8.ofNat 44))) (tB (AM' (bts nm)))) (oneB (UInt8.ofNat 58)))) (exHP (bldR (cat (cat (cat s (oneB (UInt8.ofNat 44))) (tB (AM' (bts nm)))) (oneB (UInt8.ofNat 58)))) bldL)))))).a ((k7' j).a t')))))))))))))))) := by kernel_rfl
theorem oWE_eq (W : World) (s g : ByteArray) (r : Rj) (F : HP) : AR' [] (A9' [(fwr, 7, 0, hv (.lit false))]) [] W fwr (A2' fwr 7) (tms 0 72 (aW r g r.ll)) (oW s r) [0, 1000] iW F = VT.leaf (AX.exit 1,[AV.ptr 0 0,AV.ptr 1000 0,s' g,AV.v (Value.slice r.la r.ll r.lc),i' r.ll,i' r.ll],72) [some (AO.own (Md.text s) (exHP (bldR s) bldL)),some (AO.cells [z' r.k,z' r.n,s' r.t,AV.v (Value.slice r.la r.ll r.lc),AV.v (Value.slice r.na r.nl r.nc)] 50)] 1100 ((k65' r).a t') := by kernel_rfl
def gWl (tmps : List AV) : AP (Nat × Nat × ByteArray) := match getL tmps 0 with
 | .ptr a _ => match getL tmps 3 with
  | .ptr b _ => .read a fun o => match o with
   | .own m _ => match m with
    | .text s => .ret (a, b, s)
    | _ => .fail "write"
   | _ => .fail "write"
  | _ => .fail "write"
 | _ => .fail "write"
def lW (r : Rj) (s0 g : ByteArray) (l : List UInt8) : List AV → AP (AX × List AV) := mkL gWl (fun q => q.2.2 = s0) (fun q k => match Nat.beq k 0 with | true => q.1 | false => q.2.1) (fun q => tms 0 72 (aW r g 0)) (fun q => oW q.2.2 r) (fun q => .leaf (.exit 1) (tms 0 72 [(0, .ptr 0 0), (3, .ptr 1000 0), (4, sv g)]) (oW (addT q.2.2 l) r))
def hWk (K : Nat) : B8' := A9' [(fwr, 17, 0, hv (.lit (Nat.beq K 1))), (fwr, 19, 0, hv (.lit (Nat.beq K 2))), (fwr, 21, 0, hv (.lit (Nat.beq K 3))), (fwr, 23, 0, hv (.lit (Nat.beq K 4))), (fwr, 3, 2, hv (.lit (Nat.beq K 6))), (fwr, 5, 2, h0v (byv (match Nat.beq K 6 with | true => 123 | false => 91))), (fwr, 16, 2, h0v (byv (match Nat.beq K 6 with | true => 125 | false => 93)))]
def kW (K : Nat) (r : Rj) : Rj := { r with k := Int.ofNat K }
noncomputable section
abbrev y0' : ByteArray := ByteArray.mk (Array.mk [110, 117, 108, 108])
abbrev k97' : Cnd := ((p' (true = true)).a (f' (i' 1 = i' 1)))
end
theorem oW1_eq (W : World) (s : ByteArray) (r : Rj) (F : HP) : wRun I1' (hWk 1) [] W fwr [.ptr 0 0, aggJ (kW 1 r)] [(0, bldO s)] [0] F = VT.leaf (AV.tuple []) [some (AO.own (Md.text (cat s y0')) (exHP (bldR (cat s y0')) bldL))] 1101 (k97'.a (k24'.a (((p' (fitB s ∧ fitB y0' ∧ 0 < 4)).a ((p' (VW [AV.ptr 0 0,s' y0'] [AV.ptr 0 0,s' y0'])).a (f' (OW (AO.own (Md.text s) (exHP (bldR s) bldL)) (AO.own (Md.text s) (exHP (bldR s) bldL)))))).a t'))) := by kernel_rfl
theorem oW2_eq (W : World) (s : ByteArray) (r : Rj) (F : HP) : wRun I1' (hWk 2) [] W fwr [.ptr 0 0, aggJ (kW 2 r)] [(0, bldO s)] [0] F = VT.leaf (AV.tuple []) [some (AO.own (Md.text (cat s (fbT (r.n == Int.ofNat 1)))) (exHP (bldR (cat s (fbT (r.n == Int.ofNat 1)))) bldL))] 1101 (((p' (true = true)).a (f' (i' 2 = i' 2))).a (k32'.a (k24'.a ((k62' r).a (((Cnd.p True).a t').a (((p' (fitB s ∧ fitB (fbT (r.n == Int.ofNat 1)) ∧ 0 < (fbT (r.n == Int.ofNat 1)).size)).a ((p' (VW [AV.ptr 0 0,s' (fbT (r.n == Int.ofNat 1))] [AV.ptr 0 0,s' (fbT (r.n == Int.ofNat 1))])).a (f' (OW (AO.own (Md.text s) (exHP (bldR s) bldL)) (AO.own (Md.text s) (exHP (bldR s) bldL)))))).a t')))))) := by kernel_rfl
noncomputable section
abbrev k98' : Cnd := ((p' (true = true)).a (f' (i' 3 = i' 3)))
end
theorem oW3_eq (W : World) (s : ByteArray) (r : Rj) (F : HP) : wRun I1' (hWk 3) [] W fwr [.ptr 0 0, aggJ (kW 3 r)] [(0, bldO s)] [0] F = VT.leaf (AV.tuple []) [some (AO.own (Md.text (cat s r.t)) (exHP (bldR (cat s r.t)) bldL))] 1101 (k98'.a (k32'.a (k32'.a (k24'.a ((k63' r).a (((p' (fitB s ∧ fitB r.t ∧ 0 < r.t.size)).a ((p' (VW [AV.ptr 0 0,s' r.t] [AV.ptr 0 0,s' r.t])).a (f' (OW (AO.own (Md.text s) (exHP (bldR s) bldL)) (AO.own (Md.text s) (exHP (bldR s) bldL)))))).a t')))))) := by kernel_rfl
noncomputable section
abbrev k99' : Cnd := ((p' (true = true)).a (f' (i' 4 = i' 4)))
end
theorem oW4_eq (W : World) (s : ByteArray) (r : Rj) (F : HP) : wRun I1' (hWk 4) [] W fwr [.ptr 0 0, aggJ (kW 4 r)] [(0, bldO s)] [0] F = VT.leaf (AV.tuple []) [some (AO.own (Md.text (cat s (tB (AM' (bts r.t))))) (exHP (bldR (cat s (tB (AM' (bts r.t))))) bldL))] 1101 (k99'.a (k32'.a (k32'.a (k32'.a (k24'.a ((k63' r).a (((p' (s.size + (AM' (bts r.t)).length ≤ 999998000)).a ((p' (VW [AV.ptr 0 0,s' r.t] [AV.ptr 0 0,s' r.t])).a (f' (OW (AO.own (Md.text s) (exHP (bldR s) bldL)) (AO.own (Md.text s) (exHP (bldR s) bldL)))))).a t'))))))) := by kernel_rfl
def gl5 : ByteArray := tB [91, 93]
def gl6 : ByteArray := tB [123, 125]
noncomputable section
abbrev k100' (q0 : Rj) : Cnd := (p' (OW (AO.cells [i' 5,z' q0.n,s' q0.t,AV.v (Value.slice q0.la q0.ll q0.lc),AV.v (Value.slice q0.na q0.nl q0.nc)] 50) (AO.cells [i' 5,z' q0.n,s' q0.t,AV.v (Value.slice q0.la q0.ll q0.lc),AV.v (Value.slice q0.na q0.nl q0.nc)] 50)))
end
theorem oW5_eq (W : World) (s : ByteArray) (r : Rj) (l : List UInt8) (F : HP) : wRun I1' (hWk 5) [(fwr, 7, A2' fwr 7, lW (kW 5 r) (cat s (oneB 91)) gl5 l)] W fwr [.ptr 0 0, aggJ (kW 5 r)] [(0, bldO s)] [0] F = VT.leaf (AV.tuple []) [some (AO.own (Md.text (cat (addT (cat s (oneB (UInt8.ofNat 91))) l) (oneB (UInt8.ofNat 93)))) (exHP (bldR (cat (addT (cat s (oneB (UInt8.ofNat 91))) l) (oneB (UInt8.ofNat 93)))) bldL))] 1102 (k79'.a (k32'.a (k32'.a (k32'.a (k32'.a (k79'.a (k32'.a (((p' (0 < 2)).a (f' (Wk (AV.v (Value.int IntKind.u8 (Int.ofNat 91))) (AV.v (Value.int IntKind.u8 (Int.ofNat 91)))))).a (((p' (fitB s)).a ((p' (VW [AV.ptr 0 0,AV.v (Value.int IntKind.u8 (Int.ofNat 91))] [AV.ptr 0 0,AV.v (Value.int IntKind.u8 (Int.ofNat 91))])).a (f' (OW (AO.own (Md.text s) (exHP (bldR s) bldL)) (AO.own (Md.text s) (exHP (bldR s) bldL)))))).a (k8'.a ((p' ((fwr,7,A2' fwr 7,lW (kW 5 r) (cat s (oneB 91)) gl5 l).snd.snd.fst = (fwr,7,A2' fwr 7,lW (kW 5 r) (cat s (oneB 91)) gl5 l).snd.snd.fst)).a ((p' (cat s (oneB (UInt8.ofNat 91)) = cat s (oneB 91))).a ((p' (VW (AV.ptr 0 0::AV.agg [i' 5,z' r.n,s' r.t,AV.v (Value.slice r.la r.ll r.lc),AV.v (Value.slice r.na r.nl r.nc)]::u'::AV.ptr 1100 0::s' (ByteArray.mk (Array.mk [91,93]))::u'::u'::AV.ptr 1100 0::i' 5::AV.ptr 1100 0::i' 5::g'::AV.ptr 0 0::s' (ByteArray.mk (Array.mk [91,93]))::AV.v (Value.int IntKind.u8 (Int.ofNat 91))::AV.v Value.nilIface::AV.ptr 1100 3::AV.v (Value.slice r.la r.ll r.lc)::z' ↑r.ll::i' 0::ru16 (ru8 (ru4 (g'::g'::u'::u'::g'::g'::ru4 (u'::u'::g'::g'::ru4 (g'::g'::ru4 ([]))))))) (AV.ptr 0 0::a'::a'::AV.ptr 1100 0::s' gl5::ra8 (ra4 (AV.v (Value.slice r.la r.ll r.lc)::i' r.ll::i' 0::ra16 (ra16 (ra16 (ra4 ([]))))))))).a ((p' (OW (AO.own (Md.text (cat s (oneB (UInt8.ofNat 91)))) (exHP (bldR (cat s (oneB (UInt8.ofNat 91)))) bldL)) (AO.own (Md.text (cat s (oneB (UInt8.ofNat 91)))) (exHP (bldR (cat s (oneB (UInt8.ofNat 91)))) bldL)))).a ((k100' r).a (((p' (1 < 2)).a (f' (Wk (AV.v (Value.int IntKind.u8 (Int.ofNat 93))) (AV.v (Value.int IntKind.u8 (Int.ofNat 93)))))).a (((p' (fitB (addT (cat s (oneB (UInt8.ofNat 91))) l))).a ((p' (VW [AV.ptr 0 0,AV.v (Value.int IntKind.u8 (Int.ofNat 93))] [AV.ptr 0 0,AV.v (Value.int IntKind.u8 (Int.ofNat 93))])).a (f' (OW (AO.own (Md.text (addT (cat s (oneB (UInt8.ofNat 91))) l)) (exHP (bldR (addT (cat s (oneB (UInt8.ofNat 91))) l)) bldL)) (AO.own (Md.text (addT (cat s (oneB (UInt8.ofNat 91))) l)) (exHP (bldR (addT (cat s (oneB (UInt8.ofNat 91))) l)) bldL)))))).a t'))))))))))))))))) := by kernel_rfl
noncomputable section
abbrev k101' (q0 : Rj) : Cnd := (p' (OW (AO.cells [i' 6,z' q0.n,s' q0.t,AV.v (Value.slice q0.la q0.ll q0.lc),AV.v (Value.slice q0.na q0.nl q0.nc)] 50) (AO.cells [i' 6,z' q0.n,s' q0.t,AV.v (Value.slice q0.la q0.ll q0.lc),AV.v (Value.slice q0.na q0.nl q0.nc)] 50)))
end
theorem oW6_eq (W : World) (s : ByteArray) (r : Rj) (l : List UInt8) (F : HP) : wRun I1' (hWk 6) [(fwr, 7, A2' fwr 7, lW (kW 6 r) (cat s (oneB 123)) gl6 l)] W fwr [.ptr 0 0, aggJ (kW 6 r)] [(0, bldO s)] [0] F = VT.leaf (AV.tuple []) [some (AO.own (Md.text (cat (addT (cat s (oneB (UInt8.ofNat 123))) l) (oneB (UInt8.ofNat 125)))) (exHP (bldR (cat (addT (cat s (oneB (UInt8.ofNat 123))) l) (oneB (UInt8.ofNat 125)))) bldL))] 1102 (k80'.a (k32'.a (k32'.a (k32'.a (k32'.a (k80'.a (k24'.a (((p' (0 < 2)).a (f' (Wk (AV.v (Value.int IntKind.u8 (Int.ofNat 123))) (AV.v (Value.int IntKind.u8 (Int.ofNat 123)))))).a (((p' (fitB s)).a ((p' (VW [AV.ptr 0 0,AV.v (Value.int IntKind.u8 (Int.ofNat 123))] [AV.ptr 0 0,AV.v (Value.int IntKind.u8 (Int.ofNat 123))])).a (f' (OW (AO.own (Md.text s) (exHP (bldR s) bldL)) (AO.own (Md.text s) (exHP (bldR s) bldL)))))).a (k8'.a ((p' ((fwr,7,A2' fwr 7,lW (kW 6 r) (cat s (oneB 123)) gl6 l).snd.snd.fst = (fwr,7,A2' fwr 7,lW (kW 6 r) (cat s (oneB 123)) gl6 l).snd.snd.fst)).a ((p' (cat s (oneB (UInt8.ofNat 123)) = cat s (oneB 123))).a ((p' (VW (AV.ptr 0 0::AV.agg [i' 6,z' r.n,s' r.t,AV.v (Value.slice r.la r.ll r.lc),AV.v (Value.slice r.na r.nl r.nc)]::u'::AV.ptr 1100 0::s' (ByteArray.mk (Array.mk [123,125]))::u'::u'::AV.ptr 1100 0::i' 6::AV.ptr 1100 0::i' 6::j'::AV.ptr 0 0::s' (ByteArray.mk (Array.mk [123,125]))::AV.v (Value.int IntKind.u8 (Int.ofNat 123))::AV.v Value.nilIface::AV.ptr 1100 3::AV.v (Value.slice r.la r.ll r.lc)::z' ↑r.ll::i' 0::ru16 (ru8 (ru4 (g'::g'::u'::u'::g'::g'::ru4 (u'::u'::g'::g'::ru4 (g'::g'::ru4 ([]))))))) (AV.ptr 0 0::a'::a'::AV.ptr 1100 0::s' gl6::ra8 (ra4 (AV.v (Value.slice r.la r.ll r.lc)::i' r.ll::i' 0::ra16 (ra16 (ra16 (ra4 ([]))))))))).a ((p' (OW (AO.own (Md.text (cat s (oneB (UInt8.ofNat 123)))) (exHP (bldR (cat s (oneB (UInt8.ofNat 123)))) bldL)) (AO.own (Md.text (cat s (oneB (UInt8.ofNat 123)))) (exHP (bldR (cat s (oneB (UInt8.ofNat 123)))) bldL)))).a ((k101' r).a (((p' (1 < 2)).a (f' (Wk (AV.v (Value.int IntKind.u8 (Int.ofNat 125))) (AV.v (Value.int IntKind.u8 (Int.ofNat 125)))))).a (((p' (fitB (addT (cat s (oneB (UInt8.ofNat 123))) l))).a ((p' (VW [AV.ptr 0 0,AV.v (Value.int IntKind.u8 (Int.ofNat 125))] [AV.ptr 0 0,AV.v (Value.int IntKind.u8 (Int.ofNat 125))])).a (f' (OW (AO.own (Md.text (addT (cat s (oneB (UInt8.ofNat 123))) l)) (exHP (bldR (addT (cat s (oneB (UInt8.ofNat 123))) l)) bldL)) (AO.own (Md.text (addT (cat s (oneB (UInt8.ofNat 123))) l)) (exHP (bldR (addT (cat s (oneB (UInt8.ofNat 123))) l)) bldL)))))).a t'))))))))))))))))) := by kernel_rfl
end
variable {W : World}
theorem QU' {α : Type} {l : List α} {j : Nat} {x : α} (h : l[j]? = some x) : l.drop j = x :: l.drop (j + 1) := by
 obtain ⟨hj, he⟩ := List.getElem?_eq_some_iff.1 h
 rw [List.drop_eq_getElem_cons hj, he]
theorem GX' (l : List UInt8) : bts (tB l) = l := B4' l
theorem GW' {a b : ByteArray} (h : bts a = bts b) : a = b := CV' h
theorem gQ_ro (args : List AV) : RO (gQ args) := by
 unfold gQ
 split
 ·split
  ·refine RO.read _ _ fun o => ?_
   split
   ·refine RO.read _ _ fun o => ?_
    split
    ·split
     ·exact RO.ret _
     ·exact RO.fail _
    ·exact RO.fail _
   ·exact RO.fail _
  ·exact RO.fail _
 ·exact RO.fail _
theorem T2' (s t : ByteArray) : cat (qT (cat s (oneB (UInt8.ofNat 34))) t) (oneB (UInt8.ofNat 34)) = cat s (tB (AM' (bts t))) := GW' (by
 unfold qT AM'
 simp only [CQ', E3', GX', List.append_assoc]
 rfl)
theorem VL' (hW : LWQ W) (s t : ByteArray) (hs : s.size + (AM' (bts t)).length ≤ 999998000) : Tri Tryz.prog W fQ [.ptr 0 0, sv t] [(0, bldO s)] (.tuple []) [(0, bldO (cat s (tB (AM' (bts t)))))] := by
 have hl1 : (AM' (bts t)).length = (qL (bts t)).length + 2 := by unfold AM'; simp only [List.length_append, List.length_cons, List.length_nil]; omega
 have h1 : (cat s (oneB 34)).size = s.size + 1 := by rw [BT']; rfl
 have hl : ∀ F, AK' W F → L1OK Tryz.prog F (A2' fQ 3) (lQ (cat s (oneB 34)) t) := fun F hF =>
  CL' hF gQ_ro (fun q hq => by
   obtain ⟨a, b, c, d⟩ := q
   obtain ⟨rfl, rfl⟩ := hq
   exact q_loop hW _ _ _ rfl (by rw [h1]; omega)) fun q => by
   simp only [RT.pick]
   exact C0' rfl rfl (A1' Ye (A1' rfl (A1' ⟨Ye, rfl, Ye⟩ A7'))) (WL' _ rfl _) (A1' rfl A7') (WL' _ rfl _)
 have f1 : fitB s := by unfold fitB; omega
 have f2 : fitB (qT (cat s (oneB (UInt8.ofNat 34))) t) := by
  unfold fitB qT
  rw [BT', AW']
  have : (cat s (oneB (UInt8.ofNat 34))).size = s.size + 1 := h1
  omega
 refine AD' (con := conQ) (hints := DL') (lc := [(fQ, 3, A2' fQ 3, lQ (cat s (oneB 34)) t)]) [0] rfl (fun F hF => AC' (PP' hW F hF) (AC' (V1' F hF) (AC' (LA' F hF) (AO' (LB' F hF))))) (fun F hF => BV' (hl F hF)) fun F => ?_
 refine Yj (oQ_eq W s t F) ⟨⟨?_, (AJ' (vs' := [.tuple []]) (H' := [(0, bldO (cat s (tB (AM' (bts t)))))]) [] rfl rfl (Yb) ⟨⟨_, rfl, D8' (T2' s t)⟩, Ye⟩).fits rfl⟩⟩
 simp only [Cnd.holds, Nat.blt_eq, true_and, and_true]
 and_intros
 all_goals first
  | (with_reducible exact f1)
  | (with_reducible exact f2) | (with_reducible first | exact Ye | exact Yf | exact A4' _ | assumption) | exact Yf | ((repeat (first | exact VW.nil | refine Yg ?_ | refine Yh ?_ | refine Yi ?_)); done)
theorem Z5' (hW : LWQ W) (F : HP) (hF : AK' W F) : C1OK Tryz.prog F fQ cQt :=
 BR' hF (fun _ => .tuple []) YV' (fun _ => rfl) (fun q hq => VL' hW q.s q.t hq) fun q => ⟨rfl, rfl, ⟨rfl, Ye, Ye⟩, A1' Ye A7', ⟨Ye, Ye⟩, A1' Ye A7'⟩
theorem XK' (A : List AV) (p : Bool) (h : g1b A = some p) : A = vmap [.bool p] := by
 unfold g1b at h
 split at h
 ·cases h; rfl
 ·cases h
theorem Z6' (F : HP) (hF : AK' W F) : C1OK Tryz.prog F fFB cFB :=
 VU' hF (fun b => [.bool b]) (fun b => .string (fbT b)) XK' (fun p N => vr_v N _) fun b hb w hw =>
  (Tryz.strconv_FormatBool b w).mono fun e w' ⟨h1, h2⟩ => ⟨h1, by rw [h2]; exact Below.refl _ _⟩
theorem gwr_ro (args : List AV) : RO (gwr args) := by
 unfold gwr
 split
 ·exact LU' _ _ _ _
 ·exact RO.fail _
def S3' (W : World) (x : Rj) (l : List UInt8) : Prop := ∀ s, s.size + l.length ≤ 999998000 → Tri Tryz.prog W fwr [.ptr 0 0, aggJ x] [(0, bldO s)] (.tuple []) [(0, bldO (addT s l))]
theorem cwr_ok {x : Rj} {l : List UInt8} (h : S3' W x l) (F : HP) (hF : AK' W F) : C1OK Tryz.prog F fwr (cwr x l) :=
 BR' hF (fun _ => .tuple []) gwr_ro (fun _ => rfl) (fun q hq => h q.s hq) fun q => ⟨rfl, rfl, ⟨rfl, ⟨Ye, Ye, Ye, Ye, Ye, Ye⟩, Ye⟩, A1' Ye A7', ⟨Ye, Ye⟩, A1' Ye A7'⟩
theorem LZ' (hW : LWQ W) {x : Rj} {l : List UInt8} (h : S3' W x l) (F : HP) (hF : AK' W F) : ∀ y ∈ conW x l, C1OK Tryz.prog F y.1 y.2 :=
 AC' (Z5' hW F hF) (AC' (LA' F hF) (AC' (LB' F hF) (AC' (cwr_ok h F hF) (AO' (Z6' F hF)))))
def DB' (obj : Bool) (j : Nat) (nm : ByteArray) (l : List UInt8) : List UInt8 := (if 0 < j then [44] else []) ++ ((if obj then AM' (bts nm) ++ [58] else []) ++ l)
theorem YC' (hLW : LWQ W) {d : Nat} {r : Rj} {L : List Jv} {names : List ByteArray} (f : Jv → List UInt8) (hf : ∀ u x, u ∈ L → JAt W.cell? d u x → S3' W x (f u)) (al : LOf (JAt W.cell? d) W.cell? r.la L) (an : NOf W.cell? r.na names) (hll : r.ll = L.length) (hnl : r.nl = names.length) (obj : Bool) (hob : (r.k == Int.ofNat 6) = obj) (hon : obj = true → names.length = L.length)
  (s0 g : ByteArray) (R : ByteArray) (hR : addT s0 (BL' f obj names 0 L) = R) (hs : s0.size + (BL' f obj names 0 L).length ≤ 999998000) :
  LTri Tryz.prog W (A2' fwr 7) (tms 0 72 (aW r g 0)) (oW s0 r) (.exit 1) (tms 0 72 [(0, .ptr 0 0), (3, .ptr 1000 0), (4, sv g)]) (oW R r) := by
 have hlen := E7' al.1 (by decide)
 refine BW' (W := W) (g := fwr) (b := A2' fwr 7) (σ := {p : Nat × ByteArray // p.1 ≤ r.ll ∧ addT p.2 (BL' f obj names p.1 (L.drop p.1)) = R ∧ p.2.size + (BL' f obj names p.1 (L.drop p.1)).length ≤ 999998000}) 72 (fun p => aW r g p.1.1) (fun p => oW p.1.2 r) (.exit 1) _ (oW R r) (fun p => r.ll - p.1.1) [0, 1000] iW (by intro h; cases h) (fun _ => rfl) rfl ?_ ⟨(0, s0), Nat.zero_le _, hR, hs⟩
 rintro ⟨⟨j, s⟩, hj, hE, hsz⟩
 simp only at hj hE hsz ⊢
 by_cases h1 : j < r.ll
 ·obtain ⟨u, hu⟩ := BS' (l := L) (i := j) (by omega)
  obtain ⟨a, x, ea, q1, q2⟩ := al.2 j u hu
  have aA := all5 q1
  obtain ⟨a1, a2, a3, a4, a5⟩ := c5 q1
  have hw := BO' j (by omega)
  have e1 : decide (Int.ofNat j < Int.ofNat r.ll) = true := by rw [IF']; exact decide_eq_true h1
  have hwr := hf u x (List.mem_of_getElem? hu) q2
  obtain ⟨nm, hnm⟩ : ∃ nm, names.getD j nil0 = nm := ⟨_, rfl⟩
  have hst : BL' f obj names j (L.drop j) = DB' obj j nm (f u) ++ BL' f obj names (j + 1) (L.drop (j + 1)) := by rw [QU' hu, BL', hnm]; rfl
  rw [hst] at hE hsz
  rw [List.length_append] at hsz
  have hinv : addT (addT s (DB' obj j nm (f u))) (BL' f obj names (j + 1) (L.drop (j + 1))) = R := by
   rw [← hE]; exact GW' (by unfold addT; simp only [CQ', GX', List.append_assoc])
  have hinv2 : (addT s (DB' obj j nm (f u))).size + (BL' f obj names (j + 1) (L.drop (j + 1))).length ≤ 999998000 := by
   unfold addT; rw [BT', AW']; omega
  have fs : fitB s := by unfold fitB; omega
  have o1 : ∀ s c, (cat s (oneB c)).size = s.size + 1 := fun s c => by rw [BT']; rfl
  have o2 : ∀ s l, (cat s (tB l)).size = s.size + l.length := fun s l => by rw [BT', AW']
  cases obj with
  | false =>
   have hk : (r.k == Int.ofNat 6) = false := hob
   obtain ⟨rk, rn, rt, rla, rll, rlc, rta, rtl, rtc⟩ := r
   simp only at ea
   subst ea
   by_cases h0 : 0 < j
   ·have e2 : decide (Int.ofNat j > Int.ofNat 0) = true := decide_eq_true (by simp only [Z0]; omega)
    have hlen : (DB' false j nm (f u)).length = 1 + (f u).length := by unfold DB'; rw [if_pos h0]; simp; omega
    have hfin : addT (cat s (oneB (UInt8.ofNat 44))) (f u) = addT s (DB' false j nm (f u)) := GW' (by unfold addT DB'; rw [if_pos h0]; simp only [CQ', E3', GX', List.append_assoc]; rfl)
    have z1 : (cat s (oneB (UInt8.ofNat 44))).size + (f u).length ≤ 999998000 := by rw [o1]; omega
    refine ⟨conW x (f u), hW true false j x nil0, [], fun F hF => LZ' hLW hwr F hF, fun _ _ => noL, fun F => ?_⟩
    refine Yj (aE' W s g ⟨rk, rn, rt, none, rll, rlc, rta, rtl, rtc⟩ x (f u) a j F) ⟨⟨?_, rfl, .inl ⟨rfl, ⟨(j + 1, addT s (DB' false j nm (f u))), h1, hinv, hinv2⟩, BD' h1, [(1000, 1000)], by kernel_rfl, by kernel_rfl, ⟨Ya, Ya, Ya, Ya, Ya, Ya, Ye⟩, ⟨_, rfl, D8' hfin⟩, ⟨_, rfl, Yc⟩, Ye⟩⟩⟩
    simp only [Cnd.holds, e1, h1, aA, a1, a2, a3, a4, a5, Option.getD_some, Option.isSome_some, Nat.blt_eq, true_and, and_true]
    and_intros
    all_goals first
     | (with_reducible exact AP' hw)
     | (with_reducible exact fs)
     | (with_reducible exact z1)
     | exact A0' e1
     | exact A0' e2
     | exact A0' hk
     | exact CE' rfl rfl rfl rfl rfl | (with_reducible first | exact Ye | exact Yf | exact A4' _ | assumption) | exact Yf | ((repeat (first | exact VW.nil | refine Yg ?_ | refine Yh ?_ | refine Yi ?_)); done)
   ·have e2 : decide (Int.ofNat j > Int.ofNat 0) = false := decide_eq_false (by simp only [Z0]; omega)
    have hlen : (DB' false j nm (f u)).length = (f u).length := by unfold DB'; rw [if_neg h0]; simp
    have hfin : addT s (f u) = addT s (DB' false j nm (f u)) := GW' (by unfold addT DB'; rw [if_neg h0]; simp only [CQ', E3', GX', List.append_assoc]; rfl)
    have z1 : s.size + (f u).length ≤ 999998000 := by omega
    refine ⟨conW x (f u), hW false false j x nil0, [], fun F hF => LZ' hLW hwr F hF, fun _ _ => noL, fun F => ?_⟩
    refine Yj (aF' W s g ⟨rk, rn, rt, none, rll, rlc, rta, rtl, rtc⟩ x (f u) a j F) ⟨⟨?_, rfl, .inl ⟨rfl, ⟨(j + 1, addT s (DB' false j nm (f u))), h1, hinv, hinv2⟩, BD' h1, [(1000, 1000)], by kernel_rfl, by kernel_rfl, ⟨Ya, Ya, Ya, Ya, Ya, Ya, Ye⟩, ⟨_, rfl, D8' hfin⟩, ⟨_, rfl, Yc⟩, Ye⟩⟩⟩
    simp only [Cnd.holds, e1, h1, aA, a1, a2, a3, a4, a5, Option.getD_some, Option.isSome_some, Nat.blt_eq, true_and, and_true]
    and_intros
    all_goals first
     | (with_reducible exact AP' hw)
     | (with_reducible exact fs)
     | (with_reducible exact z1)
     | exact A0' e1
     | exact A0' e2
     | exact A0' hk
     | exact CE' rfl rfl rfl rfl rfl | (with_reducible first | exact Ye | exact Yf | exact A4' _ | assumption) | exact Yf | ((repeat (first | exact VW.nil | refine Yg ?_ | refine Yh ?_ | refine Yi ?_)); done)
  | true =>
   have hk : (r.k == Int.ofNat 6) = true := hob
   have h2 : j < r.nl := by rw [hnl, hon rfl]; omega
   obtain ⟨nm', hn⟩ := BS' (l := names) (i := j) (by omega)
   obtain ⟨b, eb, p1⟩ := an.2 j nm' hn
   have hnn : nm' = nm := by rw [← hnm, List.getD_eq_getElem?_getD, hn]; rfl
   subst hnn
   rw [show j = j * 1 by omega] at p1
   obtain ⟨rk, rn, rt, rla, rll, rlc, rta, rtl, rtc⟩ := r
   simp only at ea eb
   subst ea
   subst eb
   by_cases h0 : 0 < j
   ·have e2 : decide (Int.ofNat j > Int.ofNat 0) = true := decide_eq_true (by simp only [Z0]; omega)
    have hlen : (DB' true j nm' (f u)).length = 1 + ((AM' (bts nm')).length + 1 + (f u).length) := by unfold DB'; rw [if_pos h0]; simp only [if_true, List.length_append, List.length_cons, List.length_nil]
    have hfin : addT (cat (cat (cat s (oneB (UInt8.ofNat 44))) (tB (AM' (bts nm')))) (oneB (UInt8.ofNat 58))) (f u) = addT s (DB' true j nm' (f u)) := GW' (by unfold addT DB'; rw [if_pos h0]; simp only [CQ', E3', GX', if_true, List.append_assoc]; rfl)
    have z0 : (cat s (oneB (UInt8.ofNat 44))).size + (AM' (bts nm')).length ≤ 999998000 := by rw [o1]; omega
    have z1 : fitB (cat (cat s (oneB (UInt8.ofNat 44))) (tB (AM' (bts nm')))) := by unfold fitB; rw [o2, o1]; omega
    have z2 : (cat (cat (cat s (oneB (UInt8.ofNat 44))) (tB (AM' (bts nm')))) (oneB (UInt8.ofNat 58))).size + (f u).length ≤ 999998000 := by rw [o1, o2, o1]; omega
    refine ⟨conW x (f u), hW true true j x nm', [], fun F hF => LZ' hLW hwr F hF, fun _ _ => noL, fun F => ?_⟩
    refine Yj (aC' W s g ⟨rk, rn, rt, none, rll, rlc, none, rtl, rtc⟩ x (f u) nm' a b j F) ⟨⟨?_, rfl, .inl ⟨rfl, ⟨(j + 1, addT s (DB' true j nm' (f u))), h1, hinv, hinv2⟩, BD' h1, [(1000, 1000)], by kernel_rfl, by kernel_rfl, ⟨Ya, Ya, Ya, Ya, Ya, Ya, Ye⟩, ⟨_, rfl, D8' hfin⟩, ⟨_, rfl, Yc⟩, Ye⟩⟩⟩
    simp only [Cnd.holds, e1, h1, h2, p1, aA, a1, a2, a3, a4, a5, Option.getD_some, Option.isSome_some, Nat.blt_eq, true_and, and_true]
    and_intros
    all_goals first
     | (with_reducible exact AP' hw)
     | (with_reducible exact fs)
     | (with_reducible exact z0)
     | (with_reducible exact z1)
     | (with_reducible exact z2)
     | exact A0' e1
     | exact A0' e2
     | exact A0' hk
     | exact CE' rfl rfl rfl rfl rfl | (with_reducible first | exact Ye | exact Yf | exact A4' _ | assumption) | exact Yf | ((repeat (first | exact VW.nil | refine Yg ?_ | refine Yh ?_ | refine Yi ?_)); done)
   ·have e2 : decide (Int.ofNat j > Int.ofNat 0) = false := decide_eq_false (by simp only [Z0]; omega)
    have hlen : (DB' true j nm' (f u)).length = (AM' (bts nm')).length + 1 + (f u).length := by unfold DB'; rw [if_neg h0]; simp only [if_true, List.length_append, List.length_cons, List.length_nil]; omega
    have hfin : addT (cat (cat s (tB (AM' (bts nm')))) (oneB (UInt8.ofNat 58))) (f u) = addT s (DB' true j nm' (f u)) := GW' (by unfold addT DB'; rw [if_neg h0]; simp only [CQ', E3', GX', if_true, List.append_assoc]; rfl)
    have z0 : s.size + (AM' (bts nm')).length ≤ 999998000 := by omega
    have z1 : fitB (cat s (tB (AM' (bts nm')))) := by unfold fitB; rw [o2]; omega
    have z2 : (cat (cat s (tB (AM' (bts nm')))) (oneB (UInt8.ofNat 58))).size + (f u).length ≤ 999998000 := by rw [o1, o2]; omega
    refine ⟨conW x (f u), hW false true j x nm', [], fun F hF => LZ' hLW hwr F hF, fun _ _ => noL, fun F => ?_⟩
    refine Yj (aD' W s g ⟨rk, rn, rt, none, rll, rlc, none, rtl, rtc⟩ x (f u) nm' a b j F) ⟨⟨?_, rfl, .inl ⟨rfl, ⟨(j + 1, addT s (DB' true j nm' (f u))), h1, hinv, hinv2⟩, BD' h1, [(1000, 1000)], by kernel_rfl, by kernel_rfl, ⟨Ya, Ya, Ya, Ya, Ya, Ya, Ye⟩, ⟨_, rfl, D8' hfin⟩, ⟨_, rfl, Yc⟩, Ye⟩⟩⟩
    simp only [Cnd.holds, e1, h1, h2, p1, aA, a1, a2, a3, a4, a5, Option.getD_some, Option.isSome_some, Nat.blt_eq, true_and, and_true]
    and_intros
    all_goals first
     | (with_reducible exact AP' hw)
     | (with_reducible exact fs)
     | (with_reducible exact z0)
     | (with_reducible exact z1)
     | (with_reducible exact z2)
     | exact A0' e1
     | exact A0' e2
     | exact A0' hk
     | exact CE' rfl rfl rfl rfl rfl | (with_reducible first | exact Ye | exact Yf | exact A4' _ | assumption) | exact Yf | ((repeat (first | exact VW.nil | refine Yg ?_ | refine Yh ?_ | refine Yi ?_)); done)
 ·have hje : j = r.ll := by omega
  subst hje
  rw [hll, List.drop_length] at hE
  have hsR : s = R := by rw [← hE]; unfold addT BL'; exact (UW' s).symm
  subst hsR
  refine ⟨[], A9' [(fwr, 7, 0, hv (.lit false))], [], fun _ _ => noC, fun _ _ => noL, fun F => ?_⟩
  refine Yj (oWE_eq W s g r F) ⟨⟨?_, rfl, .inr ⟨rfl, [(1000, 1000)], by kernel_rfl, by kernel_rfl, ⟨Ya, Ya, Ya, Ye⟩, ⟨_, rfl, Yc⟩, ⟨_, rfl, Yc⟩, Ye⟩⟩⟩
  have e1 : decide (Int.ofNat r.ll < Int.ofNat r.ll) = false := by rw [IF']; exact decide_eq_false (Nat.lt_irrefl _)
  simp only [Cnd.holds, Nat.blt_eq, true_and, and_true]
  and_intros
  all_goals first
   | exact A0' e1 | (with_reducible first | exact Ye | exact Yf | exact A4' _ | assumption) | exact Yf | ((repeat (first | exact VW.nil | refine Yg ?_ | refine Yh ?_ | refine Yi ?_)); done)
variable {W : World}
theorem EZ' (hW : LWQ W) (F : HP) (hF : AK' W F) : ∀ y ∈ I1', C1OK Tryz.prog F y.1 y.2 :=
 AC' (Z5' hW F hF) (AC' (LA' F hF) (AC' (LB' F hF) (AO' (Z6' F hF))))
theorem UO' (s t : ByteArray) (l : List UInt8) (h : bts t = l) : cat s t = addT s l := GW' (by unfold addT; rw [CQ', CQ', GX', h])
theorem w1 (hW : LWQ W) (r : Rj) (s : ByteArray) (hs : s.size ≤ 999998000) : Tri Tryz.prog W fwr [.ptr 0 0, aggJ (kW 1 r)] [(0, bldO s)] (.tuple []) [(0, bldO (addT s [110, 117, 108, 108]))] := by
 have f1 : fitB s := by unfold fitB; omega
 refine AD' (con := I1') (hints := hWk 1) (lc := []) [0] rfl (fun F hF => EZ' hW F hF) (fun F _ => noL) fun F => ?_
 refine Yj (oW1_eq W s r F) ⟨⟨?_, (AJ' (vs' := [.tuple []]) (H' := [(0, bldO (addT s [110, 117, 108, 108]))]) [] rfl rfl (Yb) ⟨⟨_, rfl, D8' (UO' _ _ _ rfl)⟩, Ye⟩).fits rfl⟩⟩
 simp only [Cnd.holds, Nat.blt_eq, true_and, and_true]
 and_intros
 all_goals first
  | (with_reducible exact f1)
  | exact (by decide : (4 : Nat) ≤ 1000000000)
  | exact (by decide : (0 : Nat) < 4) | (with_reducible first | exact Ye | exact Yf | exact A4' _ | assumption) | exact Yf | ((repeat (first | exact VW.nil | refine Yg ?_ | refine Yh ?_ | refine Yi ?_)); done)
theorem LV' (b : Bool) : (fbT b).size ≤ 5 ∧ 0 < (fbT b).size := by
 unfold fbT; rw [AW']; cases b <;> decide
theorem w2 (hW : LWQ W) (r : Rj) (s : ByteArray) (hs : s.size ≤ 999998000) : Tri Tryz.prog W fwr [.ptr 0 0, aggJ (kW 2 r)] [(0, bldO s)] (.tuple []) [(0, bldO (addT s (bts (fbT (r.n == Int.ofNat 1)))))] := by
 have f1 : fitB s := by unfold fitB; omega
 have f2 : fitB (fbT (r.n == Int.ofNat 1)) := by unfold fitB; have := (LV' (r.n == Int.ofNat 1)).1; omega
 have f3 := (LV' (r.n == Int.ofNat 1)).2
 refine AD' (con := I1') (hints := hWk 2) (lc := []) [0] rfl (fun F hF => EZ' hW F hF) (fun F _ => noL) fun F => ?_
 refine Yj (oW2_eq W s r F) ⟨⟨?_, (AJ' (vs' := [.tuple []]) (H' := [(0, bldO (addT s (bts (fbT (r.n == Int.ofNat 1)))))]) [] rfl rfl (Yb) ⟨⟨_, rfl, D8' (UO' _ _ _ rfl)⟩, Ye⟩).fits rfl⟩⟩
 simp only [Cnd.holds, Nat.blt_eq, true_and, and_true]
 and_intros
 all_goals first
  | (with_reducible exact f1)
  | (with_reducible exact f2)
  | (with_reducible exact f3) | (with_reducible first | exact Ye | exact Yf | exact A4' _ | assumption) | exact Yf | ((repeat (first | exact VW.nil | refine Yg ?_ | refine Yh ?_ | refine Yi ?_)); done)
theorem w3 (hW : LWQ W) (r : Rj) (s : ByteArray) (h0 : 0 < r.t.size) (hs : s.size + r.t.size ≤ 999998000) : Tri Tryz.prog W fwr [.ptr 0 0, aggJ (kW 3 r)] [(0, bldO s)] (.tuple []) [(0, bldO (addT s (bts r.t)))] := by
 have f1 : fitB s := by unfold fitB; omega
 have f2 : fitB r.t := by unfold fitB; omega
 refine AD' (con := I1') (hints := hWk 3) (lc := []) [0] rfl (fun F hF => EZ' hW F hF) (fun F _ => noL) fun F => ?_
 refine Yj (oW3_eq W s r F) ⟨⟨?_, (AJ' (vs' := [.tuple []]) (H' := [(0, bldO (addT s (bts r.t)))]) [] rfl rfl (Yb) ⟨⟨_, rfl, D8' (UO' _ _ _ rfl)⟩, Ye⟩).fits rfl⟩⟩
 simp only [Cnd.holds, Nat.blt_eq, true_and, and_true]
 and_intros
 all_goals first
  | (with_reducible exact f1)
  | (with_reducible exact f2) | (with_reducible first | exact Ye | exact Yf | exact A4' _ | assumption) | exact Yf | ((repeat (first | exact VW.nil | refine Yg ?_ | refine Yh ?_ | refine Yi ?_)); done)
theorem w4 (hW : LWQ W) (r : Rj) (s : ByteArray) (hs : s.size + (AM' (bts r.t)).length ≤ 999998000) : Tri Tryz.prog W fwr [.ptr 0 0, aggJ (kW 4 r)] [(0, bldO s)] (.tuple []) [(0, bldO (addT s (AM' (bts r.t))))] := by
 refine AD' (con := I1') (hints := hWk 4) (lc := []) [0] rfl (fun F hF => EZ' hW F hF) (fun F _ => noL) fun F => ?_
 refine Yj (oW4_eq W s r F) ⟨⟨?_, (AJ' (vs' := [.tuple []]) (H' := [(0, bldO (addT s (AM' (bts r.t))))]) [] rfl rfl (Yb) ⟨⟨_, rfl, Yc⟩, Ye⟩).fits rfl⟩⟩
 simp only [Cnd.holds, Nat.blt_eq, true_and, and_true]
 and_intros
 all_goals first | (with_reducible first | exact Ye | exact Yf | exact A4' _ | assumption) | exact Yf | ((repeat (first | exact VW.nil | refine Yg ?_ | refine Yh ?_ | refine Yi ?_)); done)
theorem gWl_ro (tmps : List AV) : RO (gWl tmps) := by
 unfold gWl
 split
 ·split
  ·refine RO.read _ _ fun o => ?_
   split
   ·split
    ·exact RO.ret _
    ·exact RO.fail _
   ·exact RO.fail _
  ·exact RO.fail _
 ·exact RO.fail _
theorem oW_cl (K : Nat → Bool) (s : ByteArray) (r : Rj) : ∀ x ∈ oW s r, x.2.cl K := A1' Ye (A1' ⟨Ye, Ye, Ye, Ye, Ye, Ye⟩ A7')
theorem lW_ok {r : Rj} {s0 g : ByteArray} {l : List UInt8} (h : LTri Tryz.prog W (A2' fwr 7) (tms 0 72 (aW r g 0)) (oW s0 r) (.exit 1) (tms 0 72 [(0, .ptr 0 0), (3, .ptr 1000 0), (4, sv g)]) (oW (addT s0 l) r)) (F : HP) (hF : AK' W F) : L1OK Tryz.prog F (A2' fwr 7) (lW r s0 g l) :=
 CL' hF gWl_ro (fun q hq => by
  obtain ⟨a, b, c⟩ := q
  obtain rfl := hq
  exact h) fun q => by
  simp only [RT.pick]
  exact C0' rfl rfl (A1' rfl (A1' rfl (A1' Ye (A1' Ye (A1' Ye (A1' Ye A7')))))) (oW_cl _ _ _) (A1' rfl (A1' rfl (A1' Ye A7'))) (oW_cl _ _ _)
theorem w_end (s : ByteArray) (l : List UInt8) (c d : UInt8) : cat (addT (cat s (oneB c)) l) (oneB d) = addT s ([c] ++ (l ++ [d])) := GW' (by unfold addT; simp only [CQ', E3', GX', List.append_assoc])
theorem w5 (hW : LWQ W) (r : Rj) (s : ByteArray) (l : List UInt8) (hs : s.size + (l.length + 2) ≤ 999998000) (h : LTri Tryz.prog W (A2' fwr 7) (tms 0 72 (aW (kW 5 r) gl5 0)) (oW (cat s (oneB 91)) (kW 5 r)) (.exit 1) (tms 0 72 [(0, .ptr 0 0), (3, .ptr 1000 0), (4, sv gl5)]) (oW (addT (cat s (oneB 91)) l) (kW 5 r))) : Tri Tryz.prog W fwr [.ptr 0 0, aggJ (kW 5 r)] [(0, bldO s)] (.tuple []) [(0, bldO (addT s ([91] ++ (l ++ [93]))))] := by
 have f1 : fitB s := by unfold fitB; omega
 have f2 : fitB (addT (cat s (oneB (UInt8.ofNat 91))) l) := by
  unfold fitB addT
  rw [BT', BT', AW']
  have : (oneB (UInt8.ofNat 91)).size = 1 := rfl
  omega
 refine AD' (con := I1') (hints := hWk 5) (lc := [(fwr, 7, A2' fwr 7, lW (kW 5 r) (cat s (oneB 91)) gl5 l)]) [0] rfl (fun F hF => EZ' hW F hF) (fun F hF => BV' (lW_ok h F hF)) fun F => ?_
 refine Yj (oW5_eq W s r l F) ⟨⟨?_, (AJ' (vs' := [.tuple []]) (H' := [(0, bldO (addT s ([91] ++ (l ++ [93]))))]) [] rfl rfl (Yb) ⟨⟨_, rfl, D8' (w_end s l 91 93)⟩, Ye⟩).fits rfl⟩⟩
 simp only [Cnd.holds, Nat.blt_eq, true_and, and_true]
 and_intros
 all_goals first
  | exact (by decide : (0 : Nat) < 2)
  | exact (by decide : (1 : Nat) < 2)
  | (with_reducible exact f1)
  | (with_reducible exact f2) | (with_reducible first | exact Ye | exact Yf | exact A4' _ | assumption) | exact Yf | ((repeat (first | exact VW.nil | refine Yg ?_ | refine Yh ?_ | refine Yi ?_)); done)
theorem w6 (hW : LWQ W) (r : Rj) (s : ByteArray) (l : List UInt8) (hs : s.size + (l.length + 2) ≤ 999998000) (h : LTri Tryz.prog W (A2' fwr 7) (tms 0 72 (aW (kW 6 r) gl6 0)) (oW (cat s (oneB 123)) (kW 6 r)) (.exit 1) (tms 0 72 [(0, .ptr 0 0), (3, .ptr 1000 0), (4, sv gl6)]) (oW (addT (cat s (oneB 123)) l) (kW 6 r))) : Tri Tryz.prog W fwr [.ptr 0 0, aggJ (kW 6 r)] [(0, bldO s)] (.tuple []) [(0, bldO (addT s ([123] ++ (l ++ [125]))))] := by
 have f1 : fitB s := by unfold fitB; omega
 have f2 : fitB (addT (cat s (oneB (UInt8.ofNat 123))) l) := by
  unfold fitB addT
  rw [BT', BT', AW']
  have : (oneB (UInt8.ofNat 123)).size = 1 := rfl
  omega
 refine AD' (con := I1') (hints := hWk 6) (lc := [(fwr, 7, A2' fwr 7, lW (kW 6 r) (cat s (oneB 123)) gl6 l)]) [0] rfl (fun F hF => EZ' hW F hF) (fun F hF => BV' (lW_ok h F hF)) fun F => ?_
 refine Yj (oW6_eq W s r l F) ⟨⟨?_, (AJ' (vs' := [.tuple []]) (H' := [(0, bldO (addT s ([123] ++ (l ++ [125]))))]) [] rfl rfl (Yb) ⟨⟨_, rfl, D8' (w_end s l 123 125)⟩, Ye⟩).fits rfl⟩⟩
 simp only [Cnd.holds, Nat.blt_eq, true_and, and_true]
 and_intros
 all_goals first
  | exact (by decide : (0 : Nat) < 2)
  | exact (by decide : (1 : Nat) < 2)
  | (with_reducible exact f1)
  | (with_reducible exact f2) | (with_reducible first | exact Ye | exact Yf | exact A4' _ | assumption) | exact Yf | ((repeat (first | exact VW.nil | refine Yg ?_ | refine Yh ?_ | refine Yi ?_)); done)
theorem LW' {f : Jv → Int} {obj : Bool} {names : List ByteArray} : ∀ {l : List Jv} {j : Nat}, errL f obj names j l = 0 → ∀ x ∈ l, f x = 0
 | [], _, _, x, hx => by cases hx
 | a :: l, j, h, x, hx => by
  rw [errL] at h
  split at h
  ·cases h
  ·split at h
   ·exact absurd h (by assumption)
   ·rename_i h1
    rcases List.mem_cons.1 hx with rfl | hx
    ·exact Decidable.not_not.1 h1
    ·exact LW' h x hx
theorem dN' {r : Rj} {dep : Nat} (h : errE 3 r dep = 0) : (num (bts r.t)).2 = true ∧ (num (bts r.t)).1 = r.t.size := by
 unfold errE errK at h
 obtain ⟨h1, h2⟩ := tt_0 (by decide) (tt_0 (by decide) h).2
 have h3 := bne_eq_false_iff_eq.1 (tt_0 (by decide) h2).1
 refine ⟨by cases hq : (num (bts r.t)).2; rw [hq] at h1; cases h1; rfl, ?_⟩
 simp only [Z0] at h3
 omega
theorem QR' {r : Rj} {dep : Nat} (h : errE 3 r dep = 0) : 0 < r.t.size := by
 obtain ⟨h1, h2⟩ := dN' h
 rcases Nat.eq_zero_or_pos r.t.size with h0 | h0
 ·have : bts r.t = [] := List.eq_nil_of_length_eq_zero (by rw [BJ']; exact h0)
  rw [this] at h1
  exact absurd h1 (by decide)
 ·exact h0
theorem OL' (hW : LWQ W) : ∀ (d : Nat) (v : Jv) (r : Rj) (dep : Nat), JAt W.cell? d v r → errJ d v dep = 0 → S3' W r (B3' d v)
 | 0, _, _, _, h, _ => h.elim
 | d + 1, v, r, dep, h, he => by
  obtain ⟨⟨i1, i2, i3, i4, i5⟩, al, af⟩ := h
  rw [JX'] at he
  have he1 : errT v dep = 0 := by
   unfold orE at he
   split at he
   ·exact absurd he (by assumption)
   ·exact Decidable.not_not.1 (by assumption)
  have he2 : errL (fun x => errJ d x (dep + 1)) (v.kind == 6) v.names 0 v.list = 0 := by
   unfold orE at he
   rw [he1] at he
   exact he
  have hf : ∀ u x, u ∈ v.list → JAt W.cell? d u x → S3' W x (B3' d u) := fun u x hu hj => OL' hW d u x (dep + 1) hj (LW' he2 u hu)
  unfold errT at he1
  by_cases hlo : v.kind < 1
  ·rw [if_pos hlo] at he1; cases he1
  rw [if_neg hlo] at he1
  by_cases hhi : 6 < v.kind
  ·rw [if_pos hhi] at he1; cases he1
  rw [if_neg hhi] at he1
  obtain ⟨K, hK⟩ : ∃ K : Nat, v.kind = Int.ofNat K := ⟨v.kind.toNat, by simp only [Z0]; omega⟩
  have hKn : v.kind.toNat = K := by rw [hK]; rfl
  have hrk : r.k = Int.ofNat K := i1.trans hK
  have hee : errK v.kind.toNat v.num v.text v.list.length v.names.length dep = errE K r dep := by rw [hKn, ← i2, ← i3, ← i4, ← i5]; rfl
  rw [hee] at he1
  have hkr : kW K r = r := by unfold kW; rw [← hrk]
  have hKc : K = 1 ∨ K = 2 ∨ K = 3 ∨ K = 4 ∨ K = 5 ∨ K = 6 := by
   have h1 : ¬ (K : Int) < 1 := by rw [hK] at hlo; exact hlo
   have h2 : ¬ 6 < (K : Int) := by rw [hK] at hhi; exact hhi
   omega
  intro s hs
  rcases hKc with rfl | rfl | rfl | rfl | rfl | rfl
  ·have ht : B3' (d + 1) v = [110, 117, 108, 108] := by rw [B3', if_pos (show v.kind = 1 from hK)]
   rw [ht] at hs ⊢
   have := w1 hW r s (by omega)
   rw [hkr] at this
   exact this
  ·have ht : B3' (d + 1) v = bts (fbT (r.n == Int.ofNat 1)) := by rw [B3', hK, if_neg (by decide), if_pos (by decide), i2]
   rw [ht] at hs ⊢
   have := w2 hW r s (by omega)
   rw [hkr] at this
   exact this
  ·have ht : B3' (d + 1) v = bts r.t := by rw [B3', hK, if_neg (by decide), if_neg (by decide), if_pos (by decide), i3]
   rw [ht, BJ'] at hs
   rw [ht]
   have := w3 hW r s (QR' he1) hs
   rw [hkr] at this
   exact this
  ·have ht : B3' (d + 1) v = AM' (bts r.t) := by rw [B3', hK, if_neg (by decide), if_neg (by decide), if_neg (by decide), if_pos (by decide), i3]
   rw [ht] at hs ⊢
   have := w4 hW r s hs
   rw [hkr] at this
   exact this
  ·have ht : B3' (d + 1) v = [91] ++ (BL' (B3' d) false v.names 0 v.list ++ [93]) := by rw [B3', hK, if_neg (by decide), if_neg (by decide), if_neg (by decide), if_neg (by decide), if_pos (by decide)]
   rw [ht] at hs ⊢
   simp only [List.length_append, List.length_cons, List.length_nil] at hs
   have o1 : (cat s (oneB 91)).size = s.size + 1 := by rw [BT']; rfl
   have := w5 hW r s (BL' (B3' d) false v.names 0 v.list) (by omega) (by
    rw [hkr]
    exact YC' hW (B3' d) hf al af i4 i5 false (by rw [hrk]; rfl) (by intro h; cases h) _ gl5 _ rfl (by rw [o1]; omega))
   rw [hkr] at this
   exact this
  ·have ht : B3' (d + 1) v = [123] ++ (BL' (B3' d) true v.names 0 v.list ++ [125]) := by rw [B3', hK, if_neg (by decide), if_neg (by decide), if_neg (by decide), if_neg (by decide), if_neg (by decide)]
   rw [ht] at hs ⊢
   simp only [List.length_append, List.length_cons, List.length_nil] at hs
   have o1 : (cat s (oneB 123)).size = s.size + 1 := by rw [BT']; rfl
   have hnl := HZ' he1
   have := w6 hW r s (BL' (B3' d) true v.names 0 v.list) (by omega) (by
    rw [hkr]
    exact YC' hW (B3' d) hf al af i4 i5 true (by rw [hrk]; rfl) (fun _ => by omega) _ gl6 _ rfl (by rw [o1]; omega))
   rw [hkr] at this
   exact this
noncomputable section
abbrev fWr : Nat := 7
theorem aG' (s : ByteArray) (P : List UInt8) : cRun (cSt s [.ptr 0 0]) [(0, bU P), (1002, rB P)] [0] = VT.leaf (s' s) [some (AO.cells [AV.ptr 0 0,AV.slice 1002 0 P.length 1 (Cp.lo P.length)] 104)] 1100 (f' ((List.take P.length (rowV encB P) = vmap (List.map (fun b => Value.int IntKind.u8 ↑b.toNat) s.data.toList) ∧ P.length ≤ (rowV encB P).length) ∧ P.length = s.size ∧ 0 < P.length ∧ P.length ≤ 9223372036854775807)) := by kernel_rfl
def gP0 (args : List AV) : AP Nat := match args with
 | [.ptr a _] => .ret a
 | _ => .fail "ptr"
def gP1 (args : List AV) : AP Nat := match args with
 | [.ptr a _, _] => .ret a
 | _ => .fail "ptr"
def cStr (s : ByteArray) : List AV → Option (AP AV) := mkC gP0 (fun _ => 0 < s.size ∧ s.size ≤ 1000000000) (fun q _ => q) (fun _ => [.ptr 0 0]) (fun _ => [(0, bldO s)]) (fun _ => .leaf .ret [sv s] [])
def cwr0 (x : Rj) (l : List UInt8) : List AV → Option (AP AV) := mkC gP1 (fun _ => l.length ≤ 999998000) (fun q _ => q) (fun _ => [.ptr 0 0, aggJ x]) (fun _ => [(0, bN)]) (fun _ => .leaf .ret [.tuple []] [(0, bldO (tB l))])
noncomputable section
abbrev y1' : ByteArray := ByteArray.mk (Array.mk [])
abbrev k102' (q0 : Rj) : Cnd := ((p' True).a (f' (VW [AV.agg [z' q0.k,z' q0.n,s' q0.t,AV.v (Value.slice q0.la q0.ll q0.lc),AV.v (Value.slice q0.na q0.nl q0.nc)],i' 1] [AV.agg [z' q0.k,z' q0.n,s' q0.t,AV.v (Value.slice q0.la q0.ll q0.lc),AV.v (Value.slice q0.na q0.nl q0.nc)],i' 1])))
end
theorem ZX' (W : World) (r : Rj) (e : Int) (F : HP) : wRun [(fCk, cCk r 1 e)] (A9' [(fWr, 2, 1, hv (.lit true))]) [] W fWr [aggJ r] [] [] F = VT.leaf (AV.tuple [s' y1',z' e]) [] 1101 ((k68' r).a ((k102' r).a ((k70' e).a t'))) := by kernel_rfl
theorem ZW' (W : World) (r : Rj) (l : List UInt8) (F : HP) : wRun [(fCk, cCk r 1 0), (fwr, cwr0 r l), (fSt, cStr (tB l))] (A9' [(fWr, 2, 1, hv (.lit false))]) [] W fWr [aggJ r] [] [] F = VT.leaf (AV.tuple [s' (tB l),i' 0]) [] 1102 ((k68' r).a ((k102' r).a (k32'.a ((k68' r).a (((p' (l.length ≤ 999998000)).a ((p' (VW [AV.ptr 1101 0,AV.agg [z' r.k,z' r.n,s' r.t,AV.v (Value.slice r.la r.ll r.lc),AV.v (Value.slice r.na r.nl r.nc)]] [AV.ptr 1101 0,AV.agg [z' r.k,z' r.n,s' r.t,AV.v (Value.slice r.la r.ll r.lc),AV.v (Value.slice r.na r.nl r.nc)]])).a (f' (OW (AO.cells [AV.v (Value.pointer none),e'] 104) (AO.cells [AV.v (Value.pointer none),e'] 104))))).a (((p' (0 < (tB l).size ∧ (tB l).size ≤ 1000000000)).a ((p' (VW [AV.ptr 1101 0] [AV.ptr 1101 0])).a (f' (OW (AO.own (Md.text (tB l)) (exHP (bldR (tB l)) bldL)) (AO.own (Md.text (tB l)) (exHP (bldR (tB l)) bldL)))))).a t')))))) := by kernel_rfl
end
variable {W : World}
theorem SI' (s : ByteArray) : List.take (bts s).length (rowV encB (bts s)) = vmap (List.map (fun b => Value.int IntKind.u8 (b.toNat : Int)) s.data.toList) ∧ (bts s).length ≤ (rowV encB (bts s)).length := by
 have h : (rowV encB (bts s)).length = (bts s).length := KZ' _
 exact ⟨by rw [List.take_of_length_le (by omega)]; exact IV' _, by omega⟩
theorem St_tri (s : ByteArray) (h0 : 0 < s.size) (hs : s.size ≤ 1000000000) : Tri Tryz.prog W fSt [.ptr 0 0] [(0, bldO s)] (sv s) [] := by
 refine LP' (fun h => ?_) fun h => ?_
 ·have := congrArg List.length h
  rw [BJ'] at this
  simp only [List.length_nil] at this
  omega
 ·refine VX' [0] rfl (fun F hF => cSt_ok s) rfl ?_
  refine Yj (aG' s (bts s)) ⟨⟨?_, (AJ' (vs' := [sv s]) (H' := []) [] rfl rfl (Yb) trivial).fits rfl⟩⟩
  have h1 := SI' s
  have h2 : (bts s).length = s.size := rfl
  exact ⟨⟨h1, h2, by omega, by omega⟩, Ye⟩
theorem dZ' (s : ByteArray) (F : HP) (hF : AK' W F) : C1OK Tryz.prog F fSt (cStr s) :=
 BR' hF (fun _ => sv s) (fun args => by unfold gP0; split; exact RO.ret _; exact RO.fail _) (fun _ => rfl) (fun q hq => St_tri s hq.1 hq.2) fun q => ⟨rfl, rfl, ⟨rfl, Ye⟩, A1' Ye A7', ⟨Ye, Ye⟩, A7'⟩
theorem e5' {vs : List AV} (hv : AV.cls (fun i => Nat.blt i 1000 || false) vs) : Goes vs [(0, bN)] vs [(0, bldO nil0)] :=
 Goes.shut (R := bldR nil0) (L := bldL) (m := .text nil0) (H0 := []) none rfl (M6' _) ⟨_, _, rfl, rfl⟩ hv A7'
theorem Y1' (l : List UInt8) : addT nil0 l = tB l := GW' (by unfold addT; rw [CQ', GX']; rfl)
theorem dU' {x : Rj} {l : List UInt8} (h : S3' W x l) (F : HP) (hF : AK' W F) : C1OK Tryz.prog F fwr (cwr0 x l) :=
 BR' hF (fun _ => .tuple []) (fun args => by unfold gP1; split; exact RO.ret _; exact RO.fail _) (fun _ => rfl) (fun q hq => by
  have := h nil0 (by show 0 + _ ≤ _; omega)
  rw [Y1'] at this
  exact Tri.pre (e5' ⟨rfl, ⟨Ye, Ye, Ye, Ye, Ye, Ye⟩, Ye⟩) this) fun q => ⟨rfl, rfl, ⟨rfl, ⟨Ye, Ye, Ye, Ye, Ye, Ye⟩, Ye⟩, A1' ⟨Ye, Ye, Ye⟩ A7', ⟨Ye, Ye⟩, A1' Ye A7'⟩
theorem MX' : ∀ {d : Nat} {v : Jv} {r : Rj} {dep : Nat}, JAt W.cell? d v r → errJ d v dep = 0 → 0 < (B3' d v).length
 | 0, _, _, _, h, _ => h.elim
 | d + 1, v, r, dep, h, he => by
  obtain ⟨⟨i1, i2, i3, i4, i5⟩, al, af⟩ := h
  rw [B3']
  split
  ·decide
  split
  ·rw [BJ']; exact (LV' _).2
  split
  ·rename_i h3
   rw [JX'] at he
   have he1 : errT v dep = 0 := by
    unfold orE at he
    split at he
    ·exact absurd he (by assumption)
    ·exact Decidable.not_not.1 (by assumption)
   unfold errT at he1
   rw [h3, if_neg (by decide), if_neg (by decide)] at he1
   rw [BJ', ← i3]
   refine QR' (r := r) (dep := dep) ?_
   rw [← i2, ← i3, ← i4, ← i5] at he1
   exact he1
  split
  ·unfold AM'; simp only [List.length_append, List.length_cons, List.length_nil]; omega
  split
  ·simp only [List.length_append, List.length_cons, List.length_nil]; omega
  ·simp only [List.length_append, List.length_cons, List.length_nil]; omega
theorem S8' {d : Nat} {v : Jv} {r : Rj} (h : JAt W.cell? d v r) (hw : wJ d v ≤ 4000000) (he : errJ d v 1 ≠ 0) : Tri Tryz.prog W fWr [aggJ r] [] (.tuple [sv nil0, iv (errJ d v 1)]) [] := by
 have hc := KD' W d v r 1 h hw (by decide)
 have e1 : (errJ d v 1 != Int.ofNat 0) = true := bne_iff_ne.2 he
 refine AD' (con := [(fCk, cCk r 1 (errJ d v 1))]) (hints := A9' [(fWr, 2, 1, hv (.lit true))]) (lc := []) [] rfl (fun F hF => AO' (LC' hc F hF)) (fun F _ => noL) fun F => ?_
 refine Yj (ZX' W r (errJ d v 1) F) ⟨⟨?_, (AJ' (vs' := [.tuple [sv nil0, iv (errJ d v 1)]]) (H' := []) [] rfl rfl (Yb) trivial).fits rfl⟩⟩
 simp only [Cnd.holds, Nat.blt_eq, true_and, and_true]
 and_intros
 all_goals first
  | exact A0' e1 | (with_reducible first | exact Ye | exact Yf | exact A4' _ | assumption) | exact Yf | ((repeat (first | exact VW.nil | refine Yg ?_ | refine Yh ?_ | refine Yi ?_)); done)
theorem VP' (hW : LWQ W) {d : Nat} {v : Jv} {r : Rj} (h : JAt W.cell? d v r) (hw : wJ d v ≤ 4000000) (he : errJ d v 1 = 0) (hl : (B3' d v).length ≤ 999998000) : Tri Tryz.prog W fWr [aggJ r] [] (.tuple [sv (tB (B3' d v)), iv 0]) [] := by
 have hc := KD' W d v r 1 h hw (by decide)
 rw [he] at hc
 have h0 : 0 < (tB (B3' d v)).size := by rw [AW']; exact MX' h he
 have h1 : (tB (B3' d v)).size ≤ 1000000000 := by rw [AW']; omega
 refine AD' (con := [(fCk, cCk r 1 0), (fwr, cwr0 r (B3' d v)), (fSt, cStr (tB (B3' d v)))]) (hints := A9' [(fWr, 2, 1, hv (.lit false))]) (lc := []) [] rfl (fun F hF => AC' (LC' hc F hF) (AC' (dU' (OL' hW d v r 1 h he) F hF) (AO' (dZ' _ F hF)))) (fun F _ => noL) fun F => ?_
 refine Yj (ZW' W r (B3' d v) F) ⟨⟨?_, (AJ' (vs' := [.tuple [sv (tB (B3' d v)), iv 0]]) (H' := []) [] rfl rfl (Yb) trivial).fits rfl⟩⟩
 simp only [Cnd.holds, Nat.blt_eq, true_and, and_true]
 and_intros
 all_goals first
  | (with_reducible exact h0)
  | (with_reducible exact h1) | (with_reducible first | exact Ye | exact Yf | exact A4' _ | assumption) | exact Yf | ((repeat (first | exact VW.nil | refine Yg ?_ | refine Yh ?_ | refine Yi ?_)); done)
noncomputable section
def gRQ (tmps : List AV) : AP Nat := match getL tmps 3 with
 | .slice a _ _ _ _ => .ret a
 | _ => .fail "Quote"
def lRQ (s : ByteArray) (R : List UInt8) : List AV → AP (AX × List AV) := mkL gRQ (fun _ => True) nm1k (fun _ => tms 0 64 (aR s 1 0)) (fun _ => oR [34]) (fun _ => .leaf (.exit 0) (tms 0 64 [(3, sB 1000 R.length)]) (oR R))
theorem oRQ_eq (s m : ByteArray) (R : List UInt8) (F : HP) : wRun [] (A9' [(fRQ, 1, 0, hvo (sB 1100 1) 1100 (rB [34])), (fRQ, 16, 2, ho 1103 (rB (R ++ [34]))), (fRQ, 16, 3, ht m)]) [(fRQ, 3, A2' fRQ 3, lRQ s R)] default fRQ [sv s] [] [] F = VT.leaf (s' m) [] 1104 (((p' (OW (AO.cells [AV.v (Value.int IntKind.u8 (Int.ofNat 34))] 10) (AO.cells [AV.v (Value.int IntKind.u8 (Int.ofNat 34))] 10))).a (f' (Wk (AV.slice 1100 0 1 1 (Cp.ex 1)) (AV.slice 1100 0 1 1 (Cp.lo 1))))).a ((p' ((fRQ,3,A2' fRQ 3,lRQ s R).snd.snd.fst = (fRQ,3,A2' fRQ 3,lRQ s R).snd.snd.fst)).a (k12'.a ((p' (VW (s' s::u'::s' y1'::AV.slice 1100 0 1 1 (Cp.lo 1)::i' 0::u'::u'::AV.slice 1100 0 1 1 (Cp.lo 1)::ru16 (ru16 (ru16 (ru8 ([]))))) (s' s::a'::a'::AV.slice 1100 0 1 1 (Cp.lo 1)::i' 0::ra16 (ra16 (ra16 (ra8 (a'::a'::a'::[]))))))).a ((p' (OW (AO.cells [AV.v (Value.int IntKind.u8 (Int.ofNat 34))] 10) (AO.cells [AV.v (Value.int IntKind.u8 (Int.ofNat 34))] 10))).a (((p' (true = true)).a ((p' (true = true)).a ((p' (true = true)).a ((p' (true = true)).a ((p' ((0 + R.length * 1).ble (AV.rens (sgN (nm1k 1100) [1000] 1101) (rowV encB R)).length = true)).a ((p' (((R.length + 1) * 1).ble 140737488355328 = true)).a ((p' ((R.length + 1).ble 9223372036854775807 = true)).a ((p' ((List.take (R.length * 1) (List.drop 0 (AV.rens (sgN (nm1k 1100) [1000] 1101) (rowV encB R)))).length.beq (R.length * 1) = true)).a (f' (OW (AO.cells (List.take (R.length * 1) (List.drop 0 (AV.rens (sgN (nm1k 1100) [1000] 1101) (rowV encB R))) ++ [AV.v (Value.int IntKind.u8 (Int.ofNat 34))]) 10) (AO.cells (rowV encB (R ++ [34])) 10))))))))))).a ((f' (0 + (R.length + 1) ≤ (rowV encB (R ++ [34])).length ∧ List.take (R.length + 1) (List.drop 0 (rowV encB (R ++ [34]))) = vmap (List.map (fun b => Value.int IntKind.u8 ↑b.toNat) m.data.toList))).a t'))))))) := by kernel_rfl
abbrev fRT : Nat := 22
def cRQ : List AV → Option (AP AV) := mkC gS1 (fun s => Few s.size ∧ (AM' (bts s)).length ≤ 999999000) (fun _ k => k) (fun s => [sv s]) (fun _ => []) (fun s => .leaf .ret [sv (tB (AM' (bts s)))] [])
def cRT (x : Rj) (l : List UInt8) : List AV → Option (AP AV) := mkC (fun _ => .ret ()) (fun _ => True) (fun _ k => k) (fun _ => [aggJ x]) (fun _ => []) (fun _ => .leaf .ret [sv (tB l)] [])
def aT (p j : Nat) : List (Nat × AV) := [(1, .ptr 1000 0), (3, sB 1001 p), (4, iv (Int.ofNat j))]
def oT (r : Rj) (P : List UInt8) : LH := [(1000, .cells (vmap r.cells) tJs), (1001, rB P)]
noncomputable section
abbrev k103' (q0 : Rj) : Cnd := ((p' True).a (f' (VW [AV.agg [z' q0.k,z' q0.n,s' q0.t,AV.v (Value.slice q0.la q0.ll q0.lc),AV.v (Value.slice q0.na q0.nl q0.nc)]] [AV.agg [z' q0.k,z' q0.n,s' q0.t,AV.v (Value.slice q0.la q0.ll q0.lc),AV.v (Value.slice q0.na q0.nl q0.nc)]])))
abbrev k104' (q0 : List UInt8) (q1 : Addr) (q2 q3 : List UInt8) (q4 : Nat) : Cnd := ((p' ((tB q0).size.ble (tB q0).size = true)).a ((p' ((List.take ((tB q0).size * 1) (List.drop 0 (vmap (List.map (fun q1 => Value.int IntKind.u8 ↑q1.toNat) q0)))).length.beq ((tB q0).size * 1) = true)).a ((p' ((List.take ((tB q0).size * 1) (List.drop 0 (vmap (List.map (fun q1 => Value.int IntKind.u8 ↑q1.toNat) q0)))).all AV.one = true)).a ((p' (Nat.blt 0 (tB q0).size = true)).a ((p' ((0 + q2.length * 1).ble (rowV encB q2).length = true)).a ((p' (((q2.length + (tB q0).size) * 1).ble 140737488355328 = true)).a ((p' ((q2.length + (tB q0).size).ble 9223372036854775807 = true)).a ((p' ((List.take (q2.length * 1) (List.drop 0 (rowV encB q2))).length.beq (q2.length * 1) = true)).a ((p' (OW (AO.cells (List.take (q2.length * 1) (List.drop 0 (rowV encB q2)) ++ List.take ((tB q0).size * 1) (List.drop 0 (vmap (List.map (fun q1 => Value.int IntKind.u8 ↑q1.toNat) q0)))) 10) (AO.cells (rowV encB q3) 10))).a (f' (Wk (AV.slice q4 0 (q2.length + (tB q0).size) 1 (Cp.lo (q2.length + (tB q0).size))) (AV.slice q4 0 q3.length 1 (Cp.lo q3.length)))))))))))))
end
theorem WK' (W : World) (r x : Rj) (a b : Addr) (nm q1 : ByteArray) (l P P1 P2 P3 : List UInt8) (j : Nat) (F : HP) : AR' [(fRQ, cRQ), (fRT, cRT x l)] (A9' [(fRT, 14, 4, hv (.lit true)), (fRT, 16, 1, hv (.lit false)), (fRT, 18, 2, hv (.lit false)), (fRT, 20, 5, hv (aggJ x)), (fRT, 20, 8, hvo (sB 1101 P3.length) 1101 (rB P3)), (fRT, 15, 1, hv (iv (Int.ofNat (j + 1))))]) [] W fRT (A2' fRT 14) (tms 0 69 (aT P.length j)) (oT (kR 5 { r with la := some a }) P) [1000, 1001, 1101, 1103, 1105] [1, 3, 4] F = VT.leaf (AX.normal,[AV.ptr 1000 0,AV.slice 1101 0 P3.length 1 (Cp.lo P3.length),i' (j + 1)],69) [some (AO.cells [i' 5,z' r.n,s' r.t,AV.v (Value.slice (some a) r.ll r.lc),AV.v (Value.slice r.na r.nl r.nc)] 50),none,some (AO.cells (rowV encB P3) 10),none,none] 1102 (k8'.a ((k57' j r).a ((k93' j).a (k79'.a (k32'.a (k8'.a ((k58' j r).a ((k67' W a j x).a ((k103' x).a ((k104' l b P P3 1101).a ((k7' j).a t'))))))))))) := by kernel_rfl
noncomputable section
abbrev k105' (q0 : ByteArray) : Cnd := ((p' (Few q0.size ∧ (AM' (bts q0)).length ≤ 999999000)).a (f' (VW [s' q0] [s' q0])))
abbrev k106' (q0 q1 : ByteArray) : Cnd := ((p' ((tB (AM' (bts q0))).size + 1 ≤ 9223372036854775807)).a (f' (Wk (s' (tB (AM' (bts q0)) ++ ByteArray.mk (Array.mk [58]))) (s' q1))))
abbrev k107' (q0 : ByteArray) (q1 : Addr) (q2 q3 : List UInt8) (q4 : Nat) : Cnd := ((p' (q0.size.ble q0.size = true)).a ((p' ((List.take (q0.size * 1) (List.drop 0 (vmap (List.map (fun q1 => Value.int IntKind.u8 ↑q1.toNat) q0.data.toList)))).length.beq (q0.size * 1) = true)).a ((p' ((List.take (q0.size * 1) (List.drop 0 (vmap (List.map (fun q1 => Value.int IntKind.u8 ↑q1.toNat) q0.data.toList)))).all AV.one = true)).a ((p' (Nat.blt 0 q0.size = true)).a ((p' ((0 + q2.length * 1).ble (rowV encB q2).length = true)).a ((p' (((q2.length + q0.size) * 1).ble 140737488355328 = true)).a ((p' ((q2.length + q0.size).ble 9223372036854775807 = true)).a ((p' ((List.take (q2.length * 1) (List.drop 0 (rowV encB q2))).length.beq (q2.length * 1) = true)).a ((p' (OW (AO.cells (List.take (q2.length * 1) (List.drop 0 (rowV encB q2)) ++ List.take (q0.size * 1) (List.drop 0 (vmap (List.map (fun q1 => Value.int IntKind.u8 ↑q1.toNat) q0.data.toList)))) 10) (AO.cells (rowV encB q3) 10))).a (f' (Wk (AV.slice q4 0 (q2.length + q0.size) 1 (Cp.lo (q2.length + q0.size))) (AV.slice q4 0 q3.length 1 (Cp.lo q3.length)))))))))))))
end
theorem WJ' (W : World) (r x : Rj) (a b : Addr) (nm q1 : ByteArray) (l P P1 P2 P3 : List UInt8) (j : Nat) (F : HP) : AR' [(fRQ, cRQ), (fRT, cRT x l)] (A9' [(fRT, 14, 4, hv (.lit true)), (fRT, 16, 1, hv (.lit false)), (fRT, 18, 2, hv (.lit true)), (fRT, 19, 5, hv (sv nm)), (fRT, 19, 7, h0v (sv q1)), (fRT, 19, 9, hvo (sB 1101 P2.length) 1101 (rB P2)), (fRT, 20, 5, hv (aggJ x)), (fRT, 20, 8, hvo (sB 1103 P3.length) 1103 (rB P3)), (fRT, 15, 1, hv (iv (Int.ofNat (j + 1))))]) [] W fRT (A2' fRT 14) (tms 0 69 (aT P.length j)) (oT (kR 6 { r with la := some a, na := some b }) P) [1000, 1001, 1101, 1103, 1105] [1, 3, 4] F = VT.leaf (AX.normal,[AV.ptr 1000 0,AV.slice 1103 0 P3.length 1 (Cp.lo P3.length),i' (j + 1)],69) [some (AO.cells [i' 6,z' r.n,s' r.t,AV.v (Value.slice (some a) r.ll r.lc),AV.v (Value.slice (some b) r.nl r.nc)] 50),none,none,some (AO.cells (rowV encB P3) 10),none] 1104 (k8'.a ((k57' j r).a ((k93' j).a (k80'.a (k24'.a (k8'.a ((k55' j r).a ((k56' W b j nm).a ((k105' nm).a ((k106' nm q1).a ((k107' q1 b P P2 1101).a (k8'.a ((k58' j r).a ((k67' W a j x).a ((k103' x).a ((k104' l b P2 P3 1103).a ((k7' j).a t'))))))))))))))))) := by kernel_rfl
noncomputable section
abbrev k108' (q0 q1 : List UInt8) (q2 : Nat) : Cnd := ((p' (true = true)).a ((p' (true = true)).a ((p' (true = true)).a ((p' (true = true)).a ((p' ((0 + q0.length * 1).ble (rowV encB q0).length = true)).a ((p' (((q0.length + 1) * 1).ble 140737488355328 = true)).a ((p' ((q0.length + 1).ble 9223372036854775807 = true)).a ((p' ((List.take (q0.length * 1) (List.drop 0 (rowV encB q0))).length.beq (q0.length * 1) = true)).a ((p' (OW (AO.cells (List.take (q0.length * 1) (List.drop 0 (rowV encB q0)) ++ [AV.v (Value.int IntKind.u8 (Int.ofNat 44))]) 10) (AO.cells (rowV encB q1) 10))).a (f' (Wk (AV.slice q2 0 (q0.length + 1) 1 (Cp.lo (q0.length + 1))) (AV.slice q2 0 q1.length 1 (Cp.lo q1.length)))))))))))))
end
theorem WI' (W : World) (r x : Rj) (a b : Addr) (nm q1 : ByteArray) (l P P1 P2 P3 : List UInt8) (j : Nat) (F : HP) : AR' [(fRQ, cRQ), (fRT, cRT x l)] (A9' [(fRT, 14, 4, hv (.lit true)), (fRT, 16, 1, hv (.lit true)), (fRT, 18, 2, hv (.lit false)), (fRT, 17, 2, hvo (sB 1101 P1.length) 1101 (rB P1)), (fRT, 20, 5, hv (aggJ x)), (fRT, 20, 8, hvo (sB 1103 P3.length) 1103 (rB P3)), (fRT, 15, 1, hv (iv (Int.ofNat (j + 1))))]) [] W fRT (A2' fRT 14) (tms 0 69 (aT P.length j)) (oT (kR 5 { r with la := some a }) P) [1000, 1001, 1101, 1103, 1105] [1, 3, 4] F = VT.leaf (AX.normal,[AV.ptr 1000 0,AV.slice 1103 0 P3.length 1 (Cp.lo P3.length),i' (j + 1)],69) [some (AO.cells [i' 5,z' r.n,s' r.t,AV.v (Value.slice (some a) r.ll r.lc),AV.v (Value.slice r.na r.nl r.nc)] 50),none,none,some (AO.cells (rowV encB P3) 10),none] 1104 (k8'.a ((k57' j r).a ((k94' j).a ((k108' P P1 1101).a (k79'.a (k32'.a (k8'.a ((k58' j r).a ((k67' W a j x).a ((k103' x).a ((k104' l b P1 P3 1103).a ((k7' j).a t')))))))))))) := by kernel_rfl
theorem WH' (W : World) (r x : Rj) (a b : Addr) (nm q1 : ByteArray) (l P P1 P2 P3 : List UInt8) (j : Nat) (F : HP) : AR' [(fRQ, cRQ), (fRT, cRT x l)] (A9' [(fRT, 14, 4, hv (.lit true)), (fRT, 16, 1, hv (.lit true)), (fRT, 18, 2, hv (.lit true)), (fRT, 17, 2, hvo (sB 1101 P1.length) 1101 (rB P1)), (fRT, 19, 5, hv (sv nm)), (fRT, 19, 7, h0v (sv q1)), (fRT, 19, 9, hvo (sB 1103 P2.length) 1103 (rB P2)), (fRT, 20, 5, hv (aggJ x)), (fRT, 20, 8, hvo (sB 1105 P3.length) 1105 (rB P3)), (fRT, 15, 1, hv (iv (Int.ofNat (j + 1))))]) [] W fRT (A2' fRT 14) (tms 0 69 (aT P.length j)) (oT (kR 6 { r with la := some a, na := some b }) P) [1000, 1001, 1101, 1103, 1105] [1, 3, 4] F = VT.leaf (AX.normal,[AV.ptr 1000 0,AV.slice 1105 0 P3.length 1 (Cp.lo P3.length),i' (j + 1)],69) [some (AO.cells [i' 6,z' r.n,s' r.t,AV.v (Value.slice (some a) r.ll r.lc),AV.v (Value.slice (some b) r.nl r.nc)] 50),none,none,none,some (AO.cells (rowV encB P3) 10)] 1106 (k8'.a ((k57' j r).a ((k94' j).a ((k108' P P1 1101).a (k80'.a (k24'.a (k8'.a ((k55' j r).a ((k56' W b j nm).a ((k105' nm).a ((k106' nm q1).a ((k107' q1 b P1 P2 1103).a (k8'.a ((k58' j r).a ((k67' W a j x).a ((k103' x).a ((k104' l b P2 P3 1105).a ((k7' j).a t')))))))))))))))))) := by kernel_rfl
theorem aU' (W : World) (r : Rj) (P : List UInt8) (F : HP) : AR' [] (A9' [(fRT, 14, 4, hv (.lit false))]) [] W fRT (A2' fRT 14) (tms 0 69 (aT P.length r.ll)) (oT r P) [1000, 1001, 1101, 1103, 1105] [1, 3, 4] F = VT.leaf (AX.exit 1,[AV.ptr 1000 0,AV.slice 1001 0 P.length 1 (Cp.lo P.length),i' r.ll],69) [some (AO.cells [z' r.k,z' r.n,s' r.t,AV.v (Value.slice r.la r.ll r.lc),AV.v (Value.slice r.na r.nl r.nc)] 50),some (AO.cells (rowV encB P) 10),none,none,none] 1100 (k8'.a ((k60' r).a t')) := by kernel_rfl
def gRT (tmps : List AV) : AP (Nat × Nat) := match getL tmps 1 with
 | .ptr a _ => match getL tmps 3 with
  | .slice b _ _ _ _ => .ret (a, b)
  | _ => .fail "Text"
 | _ => .fail "Text"
def nmT (q : Nat × Nat) : Nat → Nat := fun k => match Nat.beq k 1000 with
 | true => q.1
 | false => q.2
def lRT (r : Rj) (R : List UInt8) : List AV → AP (AX × List AV) := mkL gRT (fun _ => True) nmT (fun _ => tms 0 69 (aT 0 0)) (fun _ => oT r []) (fun _ => .leaf (.exit 1) (tms 0 69 [(1, .ptr 1000 0), (3, sB 1001 R.length)]) (oT r R))
theorem oT1_eq (W : World) (r : Rj) (F : HP) : wRun [(fRQ, cRQ)] (A9' [(fRT, 2, 0, hv (.lit true))]) [] W fRT [aggJ (kR 1 r)] [] [] F = VT.leaf (s' y0') [] 1101 (k97'.a (k24'.a t')) := by kernel_rfl
theorem oT2_eq (W : World) (r : Rj) (F : HP) : wRun [(fRQ, cRQ)] (A9' [(fRT, 2, 0, hv (.lit false)), (fRT, 4, 0, hv (.lit true))]) [] W fRT [aggJ (kR 2 r)] [] [] F = VT.ite (r.n == Int.ofNat 1) (VT.leaf (s' (ByteArray.mk (Array.mk [116,114,117,101]))) [] 1101 (((p' (true = true)).a (f' (i' 2 = i' 2))).a ((f' (Wk (b' false) g')).a ((f' (Wk (b' true) j')).a (((p' (true = true)).a (f' (z' r.n = z' r.n))).a t'))))) (VT.leaf (s' (ByteArray.mk (Array.mk [102,97,108,115,101]))) [] 1101 (((p' (true = true)).a (f' (i' 2 = i' 2))).a ((f' (Wk (b' false) g')).a ((f' (Wk (b' true) j')).a (((p' (true = true)).a (f' (z' r.n = z' r.n))).a t'))))) := by kernel_rfl
theorem oT3_eq (W : World) (r : Rj) (F : HP) : wRun [(fRQ, cRQ)] (A9' [(fRT, 2, 0, hv (.lit false)), (fRT, 4, 0, hv (.lit false)), (fRT, 8, 0, hv (.lit true))]) [] W fRT [aggJ (kR 3 r)] [] [] F = VT.leaf (s' r.t) [] 1101 (k98'.a (k32'.a (k32'.a (k24'.a ((k63' r).a t'))))) := by kernel_rfl
theorem oT4_eq (W : World) (r : Rj) (F : HP) : wRun [(fRQ, cRQ)] (A9' [(fRT, 2, 0, hv (.lit false)), (fRT, 4, 0, hv (.lit false)), (fRT, 8, 0, hv (.lit false)), (fRT, 10, 0, hv (.lit true))]) [] W fRT [aggJ (kR 4 r)] [] [] F = VT.leaf (s' (tB (AM' (bts r.t)))) [] 1101 (k99'.a (k32'.a (k32'.a (k32'.a (k24'.a ((k63' r).a (((p' (Few r.t.size ∧ (AM' (bts r.t)).length ≤ 999999000)).a (f' (VW [s' r.t] [s' r.t]))).a t'))))))) := by kernel_rfl
noncomputable section
abbrev k109' (q0 : Nat) : Cnd := ((p' (OW (AO.cells (rep [AV.v (Value.int IntKind.u8 (Int.ofNat 0))] 0) 10) (AO.cells [] 10))).a (f' (Wk (AV.slice q0 0 0 1 (Cp.ex 0)) (AV.slice q0 0 0 1 (Cp.lo 0)))))
abbrev k110' (q0 : List UInt8) (q1 q2 q3 q4 q5 : Nat) (q6 : ByteArray) : Cnd := (f' (0 + q0.length ≤ (AV.rens (sgN (nmT (q1,q2)) [q3,q4] q5) (rowV encB q0)).length ∧ List.take q0.length (List.drop 0 (AV.rens (sgN (nmT (q1,q2)) [q3,q4] q5) (rowV encB q0))) = vmap (List.map (fun b => Value.int IntKind.u8 ↑b.toNat) q6.data.toList)))
end
theorem oT5_eq (W : World) (r : Rj) (m res : ByteArray) (R : List UInt8) (F : HP) : wRun [(fRQ, cRQ)] (A9' [(fRT, 2, 0, hv (.lit false)), (fRT, 4, 0, hv (.lit false)), (fRT, 8, 0, hv (.lit false)), (fRT, 10, 0, hv (.lit false)), (fRT, 12, 0, hvo (sB 1101 0) 1101 (rB [])), (fRT, 21, 2, hv (.lit false)), (fRT, 23, 1, ht m), (fRT, 23, 2, h0), (fRT, 23, 3, h0v (sv res))]) [(fRT, 14, A2' fRT 14, lRT (kR 5 r) R)] W fRT [aggJ (kR 5 r)] [] [] F = VT.leaf (s' res) [] 1104 (k79'.a (k32'.a (k32'.a (k32'.a (k32'.a ((k109' 1101).a ((p' ((fRT,14,A2' fRT 14,lRT (kR 5 r) R).snd.snd.fst = (fRT,14,A2' fRT 14,lRT (kR 5 r) R).snd.snd.fst)).a (k12'.a ((p' (VW (AV.agg [i' 5,z' r.n,s' r.t,AV.v (Value.slice r.la r.ll r.lc),AV.v (Value.slice r.na r.nl r.nc)]::AV.ptr 1100 0::s' y1'::AV.slice 1101 0 0 1 (Cp.lo 0)::i' 0::AV.ptr 1100 0::i' 5::g'::g'::g'::g'::u'::u'::u'::g'::g'::u'::u'::g'::g'::u'::u'::u'::AV.slice 1101 0 0 1 (Cp.lo 0)::ru16 (ru16 (ru8 (ru4 (u'::[]))))) (a'::AV.ptr 1100 0::a'::AV.slice 1101 0 0 1 (Cp.lo 0)::i' 0::ra16 (ra16 (ra16 (ra16 ([]))))))).a ((k100' r).a ((p' (OW (AO.cells [] 10) (AO.cells [] 10))).a (k79'.a (k32'.a ((k110' R 1100 1101 1000 1001 1102 m).a ((f' (1 + m.size ≤ 9223372036854775807)).a (((p' ((ByteArray.mk (Array.mk [91]) ++ m).size + 1 ≤ 9223372036854775807)).a (f' (Wk (s' (ByteArray.mk (Array.mk [91]) ++ m ++ ByteArray.mk (Array.mk [93]))) (s' res)))).a t')))))))))))))))) := by kernel_rfl
theorem oT6_eq (W : World) (r : Rj) (m res : ByteArray) (R : List UInt8) (F : HP) : wRun [(fRQ, cRQ)] (A9' [(fRT, 2, 0, hv (.lit false)), (fRT, 4, 0, hv (.lit false)), (fRT, 8, 0, hv (.lit false)), (fRT, 10, 0, hv (.lit false)), (fRT, 12, 0, hvo (sB 1101 0) 1101 (rB [])), (fRT, 21, 2, hv (.lit true)), (fRT, 22, 1, ht m), (fRT, 22, 2, h0), (fRT, 22, 3, h0v (sv res))]) [(fRT, 14, A2' fRT 14, lRT (kR 6 r) R)] W fRT [aggJ (kR 6 r)] [] [] F = VT.leaf (s' res) [] 1104 (k80'.a (k32'.a (k32'.a (k32'.a (k32'.a ((k109' 1101).a ((p' ((fRT,14,A2' fRT 14,lRT (kR 6 r) R).snd.snd.fst = (fRT,14,A2' fRT 14,lRT (kR 6 r) R).snd.snd.fst)).a (k12'.a ((p' (VW (AV.agg [i' 6,z' r.n,s' r.t,AV.v (Value.slice r.la r.ll r.lc),AV.v (Value.slice r.na r.nl r.nc)]::AV.ptr 1100 0::s' y1'::AV.slice 1101 0 0 1 (Cp.lo 0)::i' 0::AV.ptr 1100 0::i' 6::g'::g'::g'::g'::u'::u'::u'::g'::g'::u'::u'::g'::g'::u'::u'::u'::AV.slice 1101 0 0 1 (Cp.lo 0)::ru16 (ru16 (ru8 (ru4 (u'::[]))))) (a'::AV.ptr 1100 0::a'::AV.slice 1101 0 0 1 (Cp.lo 0)::i' 0::ra16 (ra16 (ra16 (ra16 ([]))))))).a ((k101' r).a ((p' (OW (AO.cells [] 10) (AO.cells [] 10))).a (k80'.a (k24'.a ((k110' R 1100 1101 1000 1001 1102 m).a ((f' (1 + m.size ≤ 9223372036854775807)).a (((p' ((ByteArray.mk (Array.mk [123]) ++ m).size + 1 ≤ 9223372036854775807)).a (f' (Wk (s' (ByteArray.mk (Array.mk [123]) ++ m ++ ByteArray.mk (Array.mk [125]))) (s' res)))).a t')))))))))))))))) := by kernel_rfl
end
theorem gRQ_ro (args : List AV) : RO (gRQ args) := by
 unfold gRQ
 split
 ·exact RO.ret _
 ·exact RO.fail _
theorem oR_cl (K : Nat → Bool) (P : List UInt8) : ∀ x ∈ oR P, x.2.cl K := A1' (ZT' _ _) A7'
theorem OW' {P : List UInt8} (c : UInt8) (z : Int) (h : z = (c.toNat : Int)) : OW (AO.cells (List.take (P.length * 1) (List.drop 0 (rowV encB P)) ++ [AV.v (Value.int IntKind.u8 z)]) tByt) (AO.cells (rowV encB (P ++ [c])) tByt) := by
 subst h
 have := LO' (P := P) rfl [c]
 rw [show rowV encB [c] = [AV.v (Value.int IntKind.u8 (c.toNat : Int))] from rfl] at this
 rw [this]; exact Yc
theorem OT' (m : ByteArray) (R : List UInt8) (h : bts m = R) : 0 + R.length ≤ (rowV encB R).length ∧ List.take R.length (List.drop 0 (rowV encB R)) = vmap (List.map (fun b => Value.int IntKind.u8 (b.toNat : Int)) m.data.toList) := by
 subst h
 have := SI' m
 rw [List.drop_zero, Nat.zero_add]
 exact ⟨this.2, this.1⟩
theorem S6' (s : ByteArray) (hs : Few s.size) (hl : (AM' (bts s)).length ≤ 999999000) : Tri Tryz.prog default fRQ [sv s] [] (sv (tB (AM' (bts s)))) [] := by
 obtain ⟨R, hR⟩ : ∃ R, [34] ++ qL (bts s) = R := ⟨_, rfl⟩
 have hq : AM' (bts s) = R ++ [34] := by rw [← hR]; rfl
 rw [hq] at hl ⊢
 rw [List.length_append] at hl
 have hloop := ZQ' s hs [34] R hR (by omega)
 have hlo : ∀ F, AK' default F → L1OK Tryz.prog F (A2' fRQ 3) (lRQ s R) := fun F hF =>
  CL' hF gRQ_ro (fun _ _ => hloop) fun _ => by
   simp only [RT.pick]
   exact C0' rfl rfl (A1' Ye (A1' rfl (A1' Ye A7'))) (oR_cl _ _) (A1' rfl A7') (oR_cl _ _)
 have p1 := IO' (P := R) rfl
 have p2 : ((R.length + 1) * 1).ble 140737488355328 = true := by rw [Nat.ble_eq]; omega
 have p3 : (R.length + 1).ble 9223372036854775807 = true := by rw [Nat.ble_eq]; omega
 have p4 := CX' (P := R) rfl
 have p5 := OW' (P := R) 34 (Int.ofNat 34) rfl
 have p6 := OT' (tB (R ++ [34])) (R ++ [34]) (B4' _)
 rw [List.length_append] at p6
 refine AD' (con := []) (hints := A9' [(fRQ, 1, 0, hvo (sB 1100 1) 1100 (rB [34])), (fRQ, 16, 2, ho 1103 (rB (R ++ [34]))), (fRQ, 16, 3, ht (tB (R ++ [34])))]) (lc := [(fRQ, 3, A2' fRQ 3, lRQ s R)]) [] rfl (fun F hF => noC) (fun F hF => BV' (hlo F hF)) fun F => ?_
 refine Yj (oRQ_eq s (tB (R ++ [34])) R F) ⟨⟨?_, (AJ' (vs' := [sv (tB (R ++ [34]))]) (H' := []) [] rfl rfl (Yb) trivial).fits rfl⟩⟩
 simp only [AQ']
 simp only [Cnd.holds, AQ', Nat.blt_eq, true_and, and_true]
 and_intros
 all_goals first
  | (with_reducible exact p1)
  | (with_reducible exact p2)
  | (with_reducible exact p3)
  | (with_reducible exact p4)
  | exact p5
  | exact p6
  | exact p6.1
  | exact p6.2
  | exact G7' (Yd) | (with_reducible first | exact Ye | exact Yf | exact A4' _ | assumption) | exact Yf | ((repeat (first | exact VW.nil | refine Yg ?_ | refine Yh ?_ | refine Yi ?_)); done)
theorem GF' {W : World} (F : HP) (hF : AK' W F) : C1OK Tryz.prog F fRQ cRQ :=
 BR' (AK'.nothing F) (fun s => sv (tB (AM' (bts s)))) YW' (fun _ => rfl) (fun s hs => S6' s hs.1 hs.2) fun s => ⟨rfl, rfl, ⟨Ye, Ye⟩, A7', ⟨Ye, Ye⟩, A7'⟩
theorem O5' {W : World} {x : Rj} {l : List UInt8} (h : Tri Tryz.prog W fRT [aggJ x] [] (sv (tB l)) []) (F : HP) (hF : AK' W F) : C1OK Tryz.prog F fRT (cRT x l) :=
 BR' hF (fun _ => sv (tB l)) (fun _ => RO.ret _) (fun _ => rfl) (fun _ _ => h) fun _ => ⟨rfl, rfl, ⟨⟨Ye, Ye, Ye, Ye, Ye, Ye⟩, Ye⟩, A7', ⟨Ye, Ye⟩, A7'⟩
theorem gRT_ro (args : List AV) : RO (gRT args) := by
 unfold gRT
 split
 ·split
  ·exact RO.ret _
  ·exact RO.fail _
 ·exact RO.fail _
theorem oT_cl (K : Nat → Bool) (r : Rj) (P : List UInt8) : ∀ x ∈ oT r P, x.2.cl K := A1' ⟨Ye, Ye, Ye, Ye, Ye, Ye⟩ (A1' (ZT' _ _) A7')
theorem V6' (t m : ByteArray) (a : List UInt8) (e : bts t ++ a = bts m) : Wk (AV.v (.string (t ++ ByteArray.mk a.toArray))) (AV.v (.string m)) := by
 have : t ++ ByteArray.mk a.toArray = m := CV' (by
  refine Eq.trans ?_ e
  show (t ++ ByteArray.mk a.toArray).data.toList = t.data.toList ++ a
  simp)
 rw [this]; exact Ya
theorem R2' (t m : ByteArray) (a b : List UInt8) (e : a ++ (bts t ++ b) = bts m) : Wk (AV.v (.string (ByteArray.mk a.toArray ++ t ++ ByteArray.mk b.toArray))) (AV.v (.string m)) := by
 have : ByteArray.mk a.toArray ++ t ++ ByteArray.mk b.toArray = m := CV' (by
  refine Eq.trans ?_ e
  show (ByteArray.mk a.toArray ++ t ++ ByteArray.mk b.toArray).data.toList = a ++ (t.data.toList ++ b)
  simp)
 rw [this]; exact Ya
theorem N0' {i p q : Nat} (h : p = q) : Wk (AV.slice i 0 p 1 (Cp.lo p)) (AV.slice i 0 q 1 (Cp.lo q)) := by subst h; exact Ya
theorem W6' {nm : List UInt8} : nm.length ≤ 2 * (AM' nm).length ∧ 2 ≤ (AM' nm).length := by
 constructor
 ·unfold AM'
  simp only [List.length_append, List.length_cons, List.length_nil]
  have key : ∀ (n : Nat) (l : List UInt8), l.length ≤ n → l.length ≤ 2 * (qL l).length := by
   intro n
   induction n with
   | zero => intro l h; omega
   | succ n ih =>
    intro l h
    match l with
    | [] => exact Nat.zero_le _
    | c :: t =>
     have h1 := L8' (c :: t)
     have h2 := UQ' (c :: t) (by simp)
     have ih' := ih ((c :: t).drop (dN (c :: t))) (by rw [List.length_drop]; simp only [List.length_cons] at *; omega)
     rw [List.length_drop] at ih'
     rw [JG', List.length_append]
     have h3 : dN (c :: t) ≤ 2 * (CF' c (c :: t)).length := by
      have h4 := Z1' (c :: t)
      unfold CF'
      repeat' split
      ·rw [List.length_append, L4']; simp only [List.length_cons, List.length_nil]; omega
      ·simp only [List.length_cons, List.length_nil]; omega
      ·rw [List.length_append, L4']; simp only [List.length_cons, List.length_nil]; omega
      ·rw [List.length_take]; omega
     omega
  have := key nm.length nm (Yd)
  omega
 ·unfold AM'
  simp only [List.length_append, List.length_cons, List.length_nil]; omega
variable {W : World}
set_option maxHeartbeats 4000000 in
theorem YF' {d : Nat} {r : Rj} {L : List Jv} {names : List ByteArray} (f : Jv → List UInt8) (hf : ∀ u x, u ∈ L → JAt W.cell? d u x → (f u).length ≤ 999998000 → Tri Tryz.prog W fRT [aggJ x] [] (sv (tB (f u))) []) (hps : ∀ u x, u ∈ L → JAt W.cell? d u x → 0 < (f u).length) (al : LOf (JAt W.cell? d) W.cell? r.la L) (an : NOf W.cell? r.na names) (hll : r.ll = L.length) (hnl : r.nl = names.length) (obj : Bool) (hob : r.k = Int.ofNat (if obj then 6 else 5)) (hon : obj = true → names.length = L.length)
  (R : List UInt8) (hRR : BL' f obj names 0 L = R) (hs : R.length ≤ 999998000) :
  LTri Tryz.prog W (A2' fRT 14) (tms 0 69 (aT 0 0)) (oT r []) (.exit 1) (tms 0 69 [(1, .ptr 1000 0), (3, sB 1001 R.length)]) (oT r R) := by
 have hlen := E7' al.1 (by decide)
 refine BW' (W := W) (g := fRT) (b := A2' fRT 14) (σ := {p : Nat × List UInt8 // p.1 ≤ r.ll ∧ p.2 ++ BL' f obj names p.1 (L.drop p.1) = R}) 69 (fun p => aT p.1.2.length p.1.1) (fun p => oT r p.1.2) (.exit 1) [(1, .ptr 1000 0), (3, sB 1001 R.length)] (oT r R) (fun p => r.ll - p.1.1) [1000, 1001, 1101, 1103, 1105] [1, 3, 4] (by intro h; cases h) (fun _ => rfl) rfl ?_ ⟨(0, []), Nat.zero_le _, hRR⟩
 rintro ⟨⟨j, P⟩, hj, hE⟩
 simp only at hj hE ⊢
 by_cases h1 : j < r.ll
 ·obtain ⟨u, hu⟩ := BS' (l := L) (i := j) (by omega)
  obtain ⟨a, x, ea, qq1, q2⟩ := al.2 j u hu
  have cA := all5 qq1
  obtain ⟨cc1, cc2, cc3, cc4, cc5⟩ := c5 qq1
  have hw := BO' j (by omega)
  have e1 : decide (Int.ofNat j < Int.ofNat r.ll) = true := TX' h1
  obtain ⟨nm, hnm⟩ : ∃ nm, names.getD j nil0 = nm := ⟨_, rfl⟩
  rw [QU' hu, BL', hnm] at hE
  have hpos := hps u x (List.mem_of_getElem? hu) q2
  have hEl := congrArg List.length hE
  simp only [List.length_append] at hEl
  have hwr := hf u x (List.mem_of_getElem? hu) q2 (by omega)
  cases obj with
  | false =>
   obtain ⟨rk, rn, rt, rla, rll, rlc, rta, rtl, rtc⟩ := r
   simp only at ea hob
   subst ea
   subst hob
   by_cases h0 : 0 < j
   ·
    obtain ⟨P1, hP1⟩ : ∃ P1, P ++ [44] = P1 := ⟨_, rfl⟩
    have l1 : P1.length = P.length + 1 := by rw [← hP1, List.length_append]; rfl
    obtain ⟨P3, hP3⟩ : ∃ P3, P1 ++ f u = P3 := ⟨_, rfl⟩
    have l3 : P3.length = P1.length + (f u).length := by rw [← hP3, List.length_append]
    have hinv : P3 ++ BL' f false names (j + 1) (L.drop (j + 1)) = R := by
     rw [← hE, ← hP3, ← hP1]
     simp only [if_pos h0, if_true, if_false, Bool.false_eq_true, List.append_assoc, List.nil_append]
    have hRl := congrArg List.length hinv
    rw [List.length_append] at hRl
    have a1 := IO' (P := P) rfl
    have a2 : ((P.length + 1) * 1).ble 140737488355328 = true := by rw [Nat.ble_eq]; omega
    have a3 : (P.length + 1).ble 9223372036854775807 = true := by rw [Nat.ble_eq]; omega
    have a4 := CX' (P := P) rfl
    have a5 := N0' (i := 1101) l1.symm
    have a8 := OW' (P := P) 44 (Int.ofNat 44) rfl
    rw [hP1] at a8
    have d1 := IO' (P := P1) rfl
    have d2 : ((P1.length + (tB (f u)).size) * 1).ble 140737488355328 = true := by rw [Nat.ble_eq, AW']; omega
    have d3 : (P1.length + (tB (f u)).size).ble 9223372036854775807 = true := by rw [Nat.ble_eq, AW']; omega
    have d4 := CX' (P := P1) rfl
    have d6 := GN' (tB (f u))
    have d7 := K1' (tB (f u))
    have d8 := K2' (P := P1) (m := (tB (f u)))
    have d9 : (tB (f u)).size.ble (tB (f u)).size = true := by rw [Nat.ble_eq]; exact Yd
    have d8x : OW (AO.cells (List.take (P1.length * 1) (List.drop 0 (rowV encB P1)) ++ List.take ((tB (f u)).size * 1) (List.drop 0 (vmap (List.map (fun b => Value.int IntKind.u8 (b.toNat : Int)) (tB (f u)).data.toList)))) tByt) (AO.cells (rowV encB P3) tByt) := by rw [← hP3]; have := d8; rw [show bts (tB (f u)) = f u from B4' _] at this; exact this
    have d5 := N0' (i := 1103) (show P1.length + (tB (f u)).size = P3.length by rw [AW']; omega)
    have d0 : 0 < (tB (f u)).size := by rw [AW']; exact hpos
    have e2 : decide (Int.ofNat j > Int.ofNat 0) = true := gtT h0
    refine ⟨[(fRQ, cRQ), (fRT, cRT x (f u))], A9' [(fRT, 14, 4, hv (.lit true)), (fRT, 16, 1, hv (.lit true)), (fRT, 18, 2, hv (.lit false)), (fRT, 17, 2, hvo (sB 1101 P1.length) 1101 (rB P1)), (fRT, 20, 5, hv (aggJ x)), (fRT, 20, 8, hvo (sB 1103 P3.length) 1103 (rB P3)), (fRT, 15, 1, hv (iv (Int.ofNat (j + 1))))], [], fun F hF => AC' (GF' F hF) (AO' (O5' hwr F hF)), fun _ _ => noL, fun F => ?_⟩
    refine Yj (WI' W ⟨Int.ofNat 5, rn, rt, none, rll, rlc, rta, rtl, rtc⟩ x a a nil0 nil0 (f u) P P1 [] P3 j F) ⟨⟨?_, rfl, .inl ⟨rfl, ⟨(j + 1, P3), h1, hinv⟩, BD' h1, [(1000, 1000), (1001, 1103)], by kernel_rfl, by kernel_rfl, ⟨Ya, Ya, Ya, Ye⟩, ⟨_, rfl, Yc⟩, ⟨_, rfl, H6' rfl rfl⟩, Ye⟩⟩⟩
    simp only [Cnd.holds, h1, cA, cc1, cc2, cc3, cc4, cc5, Option.getD_some, Option.isSome_some, Nat.blt_eq, true_and, and_true]
    and_intros
    all_goals first
     | exact A0' e1
     | (with_reducible exact A0' e2)
     | (with_reducible exact AP' hw)
     | exact CE' rfl rfl rfl rfl rfl
     | exact A0' rfl
     | (with_reducible exact a1)
     | (with_reducible exact a2)
     | (with_reducible exact a3)
     | (with_reducible exact a4)
     | (with_reducible exact a5)
     | exact a8
     | (with_reducible exact d1)
     | (with_reducible exact d2)
     | (with_reducible exact d3)
     | (with_reducible exact d4)
     | exact d6
     | exact d7
     | exact d8
     | (with_reducible exact d9)
     | exact d8x
     | (with_reducible exact d5)
     | (with_reducible exact d0) | (with_reducible first | exact Ye | exact Yf | exact A4' _ | assumption) | exact Yf | ((repeat (first | exact VW.nil | refine Yg ?_ | refine Yh ?_ | refine Yi ?_)); done)
   ·
    obtain ⟨P3, hP3⟩ : ∃ P3, P ++ f u = P3 := ⟨_, rfl⟩
    have l3 : P3.length = P.length + (f u).length := by rw [← hP3, List.length_append]
    have hinv : P3 ++ BL' f false names (j + 1) (L.drop (j + 1)) = R := by
     rw [← hE, ← hP3]
     simp only [if_neg h0, if_true, if_false, Bool.false_eq_true, List.append_assoc, List.nil_append]
    have hRl := congrArg List.length hinv
    rw [List.length_append] at hRl
    have d1 := IO' (P := P) rfl
    have d2 : ((P.length + (tB (f u)).size) * 1).ble 140737488355328 = true := by rw [Nat.ble_eq, AW']; omega
    have d3 : (P.length + (tB (f u)).size).ble 9223372036854775807 = true := by rw [Nat.ble_eq, AW']; omega
    have d4 := CX' (P := P) rfl
    have d6 := GN' (tB (f u))
    have d7 := K1' (tB (f u))
    have d8 := K2' (P := P) (m := (tB (f u)))
    have d9 : (tB (f u)).size.ble (tB (f u)).size = true := by rw [Nat.ble_eq]; exact Yd
    have d8x : OW (AO.cells (List.take (P.length * 1) (List.drop 0 (rowV encB P)) ++ List.take ((tB (f u)).size * 1) (List.drop 0 (vmap (List.map (fun b => Value.int IntKind.u8 (b.toNat : Int)) (tB (f u)).data.toList)))) tByt) (AO.cells (rowV encB P3) tByt) := by rw [← hP3]; have := d8; rw [show bts (tB (f u)) = f u from B4' _] at this; exact this
    have d5 := N0' (i := 1101) (show P.length + (tB (f u)).size = P3.length by rw [AW']; omega)
    have d0 : 0 < (tB (f u)).size := by rw [AW']; exact hpos
    have e2 : decide (Int.ofNat j > Int.ofNat 0) = false := gtF (by omega)
    refine ⟨[(fRQ, cRQ), (fRT, cRT x (f u))], A9' [(fRT, 14, 4, hv (.lit true)), (fRT, 16, 1, hv (.lit false)), (fRT, 18, 2, hv (.lit false)), (fRT, 20, 5, hv (aggJ x)), (fRT, 20, 8, hvo (sB 1101 P3.length) 1101 (rB P3)), (fRT, 15, 1, hv (iv (Int.ofNat (j + 1))))], [], fun F hF => AC' (GF' F hF) (AO' (O5' hwr F hF)), fun _ _ => noL, fun F => ?_⟩
    refine Yj (WK' W ⟨Int.ofNat 5, rn, rt, none, rll, rlc, rta, rtl, rtc⟩ x a a nil0 nil0 (f u) P [] [] P3 j F) ⟨⟨?_, rfl, .inl ⟨rfl, ⟨(j + 1, P3), h1, hinv⟩, BD' h1, [(1000, 1000), (1001, 1101)], by kernel_rfl, by kernel_rfl, ⟨Ya, Ya, Ya, Ye⟩, ⟨_, rfl, Yc⟩, ⟨_, rfl, H6' rfl rfl⟩, Ye⟩⟩⟩
    simp only [Cnd.holds, h1, cA, cc1, cc2, cc3, cc4, cc5, Option.getD_some, Option.isSome_some, Nat.blt_eq, true_and, and_true]
    and_intros
    all_goals first
     | exact A0' e1
     | (with_reducible exact A0' e2)
     | (with_reducible exact AP' hw)
     | exact CE' rfl rfl rfl rfl rfl
     | exact A0' rfl
     | (with_reducible exact d1)
     | (with_reducible exact d2)
     | (with_reducible exact d3)
     | (with_reducible exact d4)
     | exact d6
     | exact d7
     | exact d8
     | (with_reducible exact d9)
     | exact d8x
     | (with_reducible exact d5)
     | (with_reducible exact d0) | (with_reducible first | exact Ye | exact Yf | exact A4' _ | assumption) | exact Yf | ((repeat (first | exact VW.nil | refine Yg ?_ | refine Yh ?_ | refine Yi ?_)); done)
  | true =>
   have h2 : j < r.nl := by rw [hnl, hon rfl]; omega
   obtain ⟨nm', hn⟩ := BS' (l := names) (i := j) (by omega)
   obtain ⟨b, eb, p1⟩ := an.2 j nm' hn
   have hnn : nm' = nm := by rw [← hnm, List.getD_eq_getElem?_getD, hn]; rfl
   subst hnn
   rw [show j = j * 1 by omega] at p1
   have hq2 := (W6' (nm := bts nm')).2
   have hqb : (AM' (bts nm')).length + 1 ≤ R.length := by
    rw [if_pos rfl, List.length_append] at hEl
    simp only [List.length_cons, List.length_nil] at hEl
    omega
   obtain ⟨rk, rn, rt, rla, rll, rlc, rta, rtl, rtc⟩ := r
   simp only at ea eb hob
   subst ea
   subst eb
   subst hob
   by_cases h0 : 0 < j
   ·
    obtain ⟨P1, hP1⟩ : ∃ P1, P ++ [44] = P1 := ⟨_, rfl⟩
    have l1 : P1.length = P.length + 1 := by rw [← hP1, List.length_append]; rfl
    obtain ⟨q1, hq1⟩ : ∃ q1, tB (AM' (bts nm') ++ [58]) = q1 := ⟨_, rfl⟩
    have hq1b : bts q1 = AM' (bts nm') ++ [58] := by rw [← hq1]; exact B4' _
    have hq1s : q1.size = (AM' (bts nm')).length + 1 := by rw [← hq1, AW', List.length_append]; rfl
    obtain ⟨P2, hP2⟩ : ∃ P2, P1 ++ bts q1 = P2 := ⟨_, rfl⟩
    have l2 : P2.length = P1.length + q1.size := by rw [← hP2, List.length_append]; rfl
    obtain ⟨P3, hP3⟩ : ∃ P3, P2 ++ f u = P3 := ⟨_, rfl⟩
    have l3 : P3.length = P2.length + (f u).length := by rw [← hP3, List.length_append]
    have hinv : P3 ++ BL' f true names (j + 1) (L.drop (j + 1)) = R := by
     rw [← hE, ← hP3, ← hP2, hq1b, ← hP1]
     simp only [if_pos h0, if_true, if_false, Bool.false_eq_true, List.append_assoc, List.nil_append]
    have hRl := congrArg List.length hinv
    rw [List.length_append] at hRl
    have a1 := IO' (P := P) rfl
    have a2 : ((P.length + 1) * 1).ble 140737488355328 = true := by rw [Nat.ble_eq]; omega
    have a3 : (P.length + 1).ble 9223372036854775807 = true := by rw [Nat.ble_eq]; omega
    have a4 := CX' (P := P) rfl
    have a5 := N0' (i := 1101) l1.symm
    have a8 := OW' (P := P) 44 (Int.ofNat 44) rfl
    rw [hP1] at a8
    have b1 := IO' (P := P1) rfl
    have b2 : ((P1.length + q1.size) * 1).ble 140737488355328 = true := by rw [Nat.ble_eq]; omega
    have b3 : (P1.length + q1.size).ble 9223372036854775807 = true := by rw [Nat.ble_eq]; omega
    have b4 := CX' (P := P1) rfl
    have b6 := GN' q1
    have b7 := K1' q1
    have b8 := K2' (P := P1) (m := q1)
    have b9 : q1.size.ble q1.size = true := by rw [Nat.ble_eq]; exact Yd
    rw [hP2] at b8
    have b5 := N0' (i := 1103) l2.symm
    have b0 : 0 < q1.size := by omega
    have c1 : Few nm'.size ∧ (AM' (bts nm')).length ≤ 999999000 := ⟨by have := (W6' (nm := bts nm')).1; rw [BJ'] at this; unfold Few; omega, by omega⟩
    have c2 : (tB (AM' (bts nm'))).size + 1 ≤ 9223372036854775807 := by rw [AW']; omega
    have c3 := V6' (tB (AM' (bts nm'))) q1 [58] (by rw [hq1b, show bts (tB (AM' (bts nm'))) = AM' (bts nm') from B4' _])
    have d1 := IO' (P := P2) rfl
    have d2 : ((P2.length + (tB (f u)).size) * 1).ble 140737488355328 = true := by rw [Nat.ble_eq, AW']; omega
    have d3 : (P2.length + (tB (f u)).size).ble 9223372036854775807 = true := by rw [Nat.ble_eq, AW']; omega
    have d4 := CX' (P := P2) rfl
    have d6 := GN' (tB (f u))
    have d7 := K1' (tB (f u))
    have d8 := K2' (P := P2) (m := (tB (f u)))
    have d9 : (tB (f u)).size.ble (tB (f u)).size = true := by rw [Nat.ble_eq]; exact Yd
    have d8x : OW (AO.cells (List.take (P2.length * 1) (List.drop 0 (rowV encB P2)) ++ List.take ((tB (f u)).size * 1) (List.drop 0 (vmap (List.map (fun b => Value.int IntKind.u8 (b.toNat : Int)) (tB (f u)).data.toList)))) tByt) (AO.cells (rowV encB P3) tByt) := by rw [← hP3]; have := d8; rw [show bts (tB (f u)) = f u from B4' _] at this; exact this
    have d5 := N0' (i := 1105) (show P2.length + (tB (f u)).size = P3.length by rw [AW']; omega)
    have d0 : 0 < (tB (f u)).size := by rw [AW']; exact hpos
    have e2 : decide (Int.ofNat j > Int.ofNat 0) = true := gtT h0
    refine ⟨[(fRQ, cRQ), (fRT, cRT x (f u))], A9' [(fRT, 14, 4, hv (.lit true)), (fRT, 16, 1, hv (.lit true)), (fRT, 18, 2, hv (.lit true)), (fRT, 17, 2, hvo (sB 1101 P1.length) 1101 (rB P1)), (fRT, 19, 5, hv (sv nm')), (fRT, 19, 7, h0v (sv q1)), (fRT, 19, 9, hvo (sB 1103 P2.length) 1103 (rB P2)), (fRT, 20, 5, hv (aggJ x)), (fRT, 20, 8, hvo (sB 1105 P3.length) 1105 (rB P3)), (fRT, 15, 1, hv (iv (Int.ofNat (j + 1))))], [], fun F hF => AC' (GF' F hF) (AO' (O5' hwr F hF)), fun _ _ => noL, fun F => ?_⟩
    refine Yj (WH' W ⟨Int.ofNat 6, rn, rt, none, rll, rlc, none, rtl, rtc⟩ x a b nm' q1 (f u) P P1 P2 P3 j F) ⟨⟨?_, rfl, .inl ⟨rfl, ⟨(j + 1, P3), h1, hinv⟩, BD' h1, [(1000, 1000), (1001, 1105)], by kernel_rfl, by kernel_rfl, ⟨Ya, Ya, Ya, Ye⟩, ⟨_, rfl, Yc⟩, ⟨_, rfl, H6' rfl rfl⟩, Ye⟩⟩⟩
    simp only [Cnd.holds, h1, cA, cc1, cc2, cc3, cc4, cc5, Option.getD_some, Option.isSome_some, h2, p1, Nat.blt_eq, true_and, and_true]
    and_intros
    all_goals first
     | exact A0' e1
     | (with_reducible exact A0' e2)
     | (with_reducible exact AP' hw)
     | exact CE' rfl rfl rfl rfl rfl
     | exact A0' rfl
     | (with_reducible exact a1)
     | (with_reducible exact a2)
     | (with_reducible exact a3)
     | (with_reducible exact a4)
     | (with_reducible exact a5)
     | exact a8
     | (with_reducible exact b1)
     | (with_reducible exact b2)
     | (with_reducible exact b3)
     | (with_reducible exact b4)
     | exact b6
     | exact b7
     | exact b8
     | (with_reducible exact b9)
     | (with_reducible exact b5)
     | (with_reducible exact b0)
     | exact c1
     | (with_reducible exact c2)
     | exact c3
     | exact c1.1
     | exact c1.2
     | (with_reducible exact d1)
     | (with_reducible exact d2)
     | (with_reducible exact d3)
     | (with_reducible exact d4)
     | exact d6
     | exact d7
     | exact d8
     | (with_reducible exact d9)
     | exact d8x
     | (with_reducible exact d5)
     | (with_reducible exact d0) | (with_reducible first | exact Ye | exact Yf | exact A4' _ | assumption) | exact Yf | ((repeat (first | exact VW.nil | refine Yg ?_ | refine Yh ?_ | refine Yi ?_)); done)
   ·
    obtain ⟨q1, hq1⟩ : ∃ q1, tB (AM' (bts nm') ++ [58]) = q1 := ⟨_, rfl⟩
    have hq1b : bts q1 = AM' (bts nm') ++ [58] := by rw [← hq1]; exact B4' _
    have hq1s : q1.size = (AM' (bts nm')).length + 1 := by rw [← hq1, AW', List.length_append]; rfl
    obtain ⟨P2, hP2⟩ : ∃ P2, P ++ bts q1 = P2 := ⟨_, rfl⟩
    have l2 : P2.length = P.length + q1.size := by rw [← hP2, List.length_append]; rfl
    obtain ⟨P3, hP3⟩ : ∃ P3, P2 ++ f u = P3 := ⟨_, rfl⟩
    have l3 : P3.length = P2.length + (f u).length := by rw [← hP3, List.length_append]
    have hinv : P3 ++ BL' f true names (j + 1) (L.drop (j + 1)) = R := by
     rw [← hE, ← hP3, ← hP2, hq1b]
     simp only [if_neg h0, if_true, if_false, Bool.false_eq_true, List.append_assoc, List.nil_append]
    have hRl := congrArg List.length hinv
    rw [List.length_append] at hRl
    have b1 := IO' (P := P) rfl
    have b2 : ((P.length + q1.size) * 1).ble 140737488355328 = true := by rw [Nat.ble_eq]; omega
    have b3 : (P.length + q1.size).ble 9223372036854775807 = true := by rw [Nat.ble_eq]; omega
    have b4 := CX' (P := P) rfl
    have b6 := GN' q1
    have b7 := K1' q1
    have b8 := K2' (P := P) (m := q1)
    have b9 : q1.size.ble q1.size = true := by rw [Nat.ble_eq]; exact Yd
    rw [hP2] at b8
    have b5 := N0' (i := 1101) l2.symm
    have b0 : 0 < q1.size := by omega
    have c1 : Few nm'.size ∧ (AM' (bts nm')).length ≤ 999999000 := ⟨by have := (W6' (nm := bts nm')).1; rw [BJ'] at this; unfold Few; omega, by omega⟩
    have c2 : (tB (AM' (bts nm'))).size + 1 ≤ 9223372036854775807 := by rw [AW']; omega
    have c3 := V6' (tB (AM' (bts nm'))) q1 [58] (by rw [hq1b, show bts (tB (AM' (bts nm'))) = AM' (bts nm') from B4' _])
    have d1 := IO' (P := P2) rfl
    have d2 : ((P2.length + (tB (f u)).size) * 1).ble 140737488355328 = true := by rw [Nat.ble_eq, AW']; omega
    have d3 : (P2.length + (tB (f u)).size).ble 9223372036854775807 = true := by rw [Nat.ble_eq, AW']; omega
    have d4 := CX' (P := P2) rfl
    have d6 := GN' (tB (f u))
    have d7 := K1' (tB (f u))
    have d8 := K2' (P := P2) (m := (tB (f u)))
    have d9 : (tB (f u)).size.ble (tB (f u)).size = true := by rw [Nat.ble_eq]; exact Yd
    have d8x : OW (AO.cells (List.take (P2.length * 1) (List.drop 0 (rowV encB P2)) ++ List.take ((tB (f u)).size * 1) (List.drop 0 (vmap (List.map (fun b => Value.int IntKind.u8 (b.toNat : Int)) (tB (f u)).data.toList)))) tByt) (AO.cells (rowV encB P3) tByt) := by rw [← hP3]; have := d8; rw [show bts (tB (f u)) = f u from B4' _] at this; exact this
    have d5 := N0' (i := 1103) (show P2.length + (tB (f u)).size = P3.length by rw [AW']; omega)
    have d0 : 0 < (tB (f u)).size := by rw [AW']; exact hpos
    have e2 : decide (Int.ofNat j > Int.ofNat 0) = false := gtF (by omega)
    refine ⟨[(fRQ, cRQ), (fRT, cRT x (f u))], A9' [(fRT, 14, 4, hv (.lit true)), (fRT, 16, 1, hv (.lit false)), (fRT, 18, 2, hv (.lit true)), (fRT, 19, 5, hv (sv nm')), (fRT, 19, 7, h0v (sv q1)), (fRT, 19, 9, hvo (sB 1101 P2.length) 1101 (rB P2)), (fRT, 20, 5, hv (aggJ x)), (fRT, 20, 8, hvo (sB 1103 P3.length) 1103 (rB P3)), (fRT, 15, 1, hv (iv (Int.ofNat (j + 1))))], [], fun F hF => AC' (GF' F hF) (AO' (O5' hwr F hF)), fun _ _ => noL, fun F => ?_⟩
    refine Yj (WJ' W ⟨Int.ofNat 6, rn, rt, none, rll, rlc, none, rtl, rtc⟩ x a b nm' q1 (f u) P [] P2 P3 j F) ⟨⟨?_, rfl, .inl ⟨rfl, ⟨(j + 1, P3), h1, hinv⟩, BD' h1, [(1000, 1000), (1001, 1103)], by kernel_rfl, by kernel_rfl, ⟨Ya, Ya, Ya, Ye⟩, ⟨_, rfl, Yc⟩, ⟨_, rfl, H6' rfl rfl⟩, Ye⟩⟩⟩
    simp only [Cnd.holds, h1, cA, cc1, cc2, cc3, cc4, cc5, Option.getD_some, Option.isSome_some, h2, p1, Nat.blt_eq, true_and, and_true]
    and_intros
    all_goals first
     | exact A0' e1
     | (with_reducible exact A0' e2)
     | (with_reducible exact AP' hw)
     | exact CE' rfl rfl rfl rfl rfl
     | exact A0' rfl
     | (with_reducible exact b1)
     | (with_reducible exact b2)
     | (with_reducible exact b3)
     | (with_reducible exact b4)
     | exact b6
     | exact b7
     | exact b8
     | (with_reducible exact b9)
     | (with_reducible exact b5)
     | (with_reducible exact b0)
     | exact c1
     | (with_reducible exact c2)
     | exact c3
     | exact c1.1
     | exact c1.2
     | (with_reducible exact d1)
     | (with_reducible exact d2)
     | (with_reducible exact d3)
     | (with_reducible exact d4)
     | exact d6
     | exact d7
     | exact d8
     | (with_reducible exact d9)
     | exact d8x
     | (with_reducible exact d5)
     | (with_reducible exact d0) | (with_reducible first | exact Ye | exact Yf | exact A4' _ | assumption) | exact Yf | ((repeat (first | exact VW.nil | refine Yg ?_ | refine Yh ?_ | refine Yi ?_)); done)
 ·have hje : j = r.ll := by omega
  subst hje
  rw [hll, List.drop_length, BL', List.append_nil] at hE
  subst hE
  have e1 := TY' (a := r.ll)
  refine ⟨[], A9' [(fRT, 14, 4, hv (.lit false))], [], fun _ _ => noC, fun _ _ => noL, fun F => ?_⟩
  refine Yj (aU' W r P F) ⟨⟨?_, rfl, .inr ⟨rfl, [(1000, 1000), (1001, 1001)], by kernel_rfl, by kernel_rfl, ⟨Ya, Ya, Ye⟩, ⟨_, rfl, Yc⟩, ⟨_, rfl, H6' rfl rfl⟩, Ye⟩⟩⟩
  simp only [Cnd.holds, Nat.blt_eq, true_and, and_true]
  and_intros
  all_goals first
   | exact A0' e1 | (with_reducible first | exact Ye | exact Yf | exact A4' _ | assumption) | exact Yf | ((repeat (first | exact VW.nil | refine Yg ?_ | refine Yh ?_ | refine Yi ?_)); done)
variable {W : World}
abbrev fRW : Nat := 8
theorem aT' (W : World) (r : Rj) (e : Int) (F : HP) : wRun [(fWg, cCk r 1 e)] (A9' [(fRW, 2, 1, hv (.lit true))]) [] W fRW [aggJ r] [] [] F = VT.leaf (AV.tuple [s' y1',z' e]) [] 1101 ((k68' r).a ((k102' r).a ((k70' e).a t'))) := by kernel_rfl
theorem aS' (W : World) (r : Rj) (l : List UInt8) (F : HP) : wRun [(fWg, cCk r 1 0), (fRT, cRT r l)] (A9' [(fRW, 2, 1, hv (.lit false))]) [] W fRW [aggJ r] [] [] F = VT.leaf (AV.tuple [s' (tB l),i' 0]) [] 1101 ((k68' r).a ((k102' r).a (k32'.a ((k68' r).a ((k103' r).a t'))))) := by kernel_rfl
theorem t1 (r : Rj) : Tri Tryz.prog W fRT [aggJ (kW 1 r)] [] (sv (tB [110, 117, 108, 108])) [] := by
 refine AD' (con := [(fRQ, cRQ)]) (hints := A9' [(fRT, 2, 0, hv (.lit true))]) (lc := []) [] rfl (fun F hF => AO' (GF' F hF)) (fun F _ => noL) fun F => ?_
 refine Yj (oT1_eq W r F) ⟨⟨?_, (AJ' (vs' := [sv (tB [110, 117, 108, 108])]) (H' := []) [] rfl rfl (Yb) trivial).fits rfl⟩⟩
 simp only [Cnd.holds, Nat.blt_eq, true_and, and_true]
 and_intros
 all_goals first | (with_reducible first | exact Ye | exact Yf | exact A4' _ | assumption) | exact Yf | ((repeat (first | exact VW.nil | refine Yg ?_ | refine Yh ?_ | refine Yi ?_)); done)
theorem sv_eq {a b : ByteArray} (h : a = b) : VW [AV.v (Value.string a)] [sv b] := by subst h; exact Yb
theorem t2 (r : Rj) : Tri Tryz.prog W fRT [aggJ (kW 2 r)] [] (sv (fbT (r.n == Int.ofNat 1))) [] := by
 refine AD' (con := [(fRQ, cRQ)]) (hints := A9' [(fRT, 2, 0, hv (.lit false)), (fRT, 4, 0, hv (.lit true))]) (lc := []) [] rfl (fun F hF => AO' (GF' F hF)) (fun F _ => noL) fun F => ?_
 refine cast (congrArg (VAll _) (oT2_eq W r F).symm) ?_
 refine VAll.ite (fun hq => ?_) (fun hq => ?_)
 ·refine ⟨⟨?_, (AJ' (vs' := [sv (fbT (r.n == Int.ofNat 1))]) (H' := []) [] rfl rfl (sv_eq (by rw [hq]; rfl)) trivial).fits rfl⟩⟩
  simp only [Cnd.holds, Nat.blt_eq, true_and, and_true]
  and_intros
  all_goals first | (with_reducible first | exact Ye | exact Yf | exact A4' _ | assumption) | exact Yf | ((repeat (first | exact VW.nil | refine Yg ?_ | refine Yh ?_ | refine Yi ?_)); done)
 ·refine ⟨⟨?_, (AJ' (vs' := [sv (fbT (r.n == Int.ofNat 1))]) (H' := []) [] rfl rfl (sv_eq (by rw [hq]; rfl)) trivial).fits rfl⟩⟩
  simp only [Cnd.holds, Nat.blt_eq, true_and, and_true]
  and_intros
  all_goals first | (with_reducible first | exact Ye | exact Yf | exact A4' _ | assumption) | exact Yf | ((repeat (first | exact VW.nil | refine Yg ?_ | refine Yh ?_ | refine Yi ?_)); done)
theorem t3 (r : Rj) : Tri Tryz.prog W fRT [aggJ (kW 3 r)] [] (sv r.t) [] := by
 refine AD' (con := [(fRQ, cRQ)]) (hints := A9' [(fRT, 2, 0, hv (.lit false)), (fRT, 4, 0, hv (.lit false)), (fRT, 8, 0, hv (.lit true))]) (lc := []) [] rfl (fun F hF => AO' (GF' F hF)) (fun F _ => noL) fun F => ?_
 refine Yj (oT3_eq W r F) ⟨⟨?_, (AJ' (vs' := [sv r.t]) (H' := []) [] rfl rfl (Yb) trivial).fits rfl⟩⟩
 simp only [Cnd.holds, Nat.blt_eq, true_and, and_true]
 and_intros
 all_goals first | (with_reducible first | exact Ye | exact Yf | exact A4' _ | assumption) | exact Yf | ((repeat (first | exact VW.nil | refine Yg ?_ | refine Yh ?_ | refine Yi ?_)); done)
theorem t4 (r : Rj) (hs : (AM' (bts r.t)).length ≤ 999999000) : Tri Tryz.prog W fRT [aggJ (kW 4 r)] [] (sv (tB (AM' (bts r.t)))) [] := by
 have c1 : Few r.t.size ∧ (AM' (bts r.t)).length ≤ 999999000 := ⟨by have := (W6' (nm := bts r.t)).1; rw [BJ'] at this; unfold Few; omega, hs⟩
 refine AD' (con := [(fRQ, cRQ)]) (hints := A9' [(fRT, 2, 0, hv (.lit false)), (fRT, 4, 0, hv (.lit false)), (fRT, 8, 0, hv (.lit false)), (fRT, 10, 0, hv (.lit true))]) (lc := []) [] rfl (fun F hF => AO' (GF' F hF)) (fun F _ => noL) fun F => ?_
 refine Yj (oT4_eq W r F) ⟨⟨?_, (AJ' (vs' := [sv (tB (AM' (bts r.t)))]) (H' := []) [] rfl rfl (Yb) trivial).fits rfl⟩⟩
 simp only [Cnd.holds, Nat.blt_eq, true_and, and_true]
 and_intros
 all_goals first
  | exact c1
  | exact c1.1
  | exact c1.2 | (with_reducible first | exact Ye | exact Yf | exact A4' _ | assumption) | exact Yf | ((repeat (first | exact VW.nil | refine Yg ?_ | refine Yh ?_ | refine Yi ?_)); done)
theorem YN' {r : Rj} {R : List UInt8} (h : LTri Tryz.prog W (A2' fRT 14) (tms 0 69 (aT 0 0)) (oT r []) (.exit 1) (tms 0 69 [(1, .ptr 1000 0), (3, sB 1001 R.length)]) (oT r R)) (F : HP) (hF : AK' W F) : L1OK Tryz.prog F (A2' fRT 14) (lRT r R) :=
 CL' hF gRT_ro (fun _ _ => h) fun _ => by
  simp only [RT.pick]
  exact C0' rfl rfl (A1' rfl (A1' rfl (A1' Ye A7'))) (oT_cl _ _ _) (A1' rfl (A1' rfl A7')) (oT_cl _ _ _)
theorem T1' : OW (AO.cells (rep [AV.v (Value.int IntKind.u8 (Int.ofNat 0))] 0) tByt) (AO.cells [] tByt) := Yc
theorem t5 (r : Rj) (R : List UInt8) (hs : R.length ≤ 999998000) (h : LTri Tryz.prog W (A2' fRT 14) (tms 0 69 (aT 0 0)) (oT (kR 5 r) []) (.exit 1) (tms 0 69 [(1, .ptr 1000 0), (3, sB 1001 R.length)]) (oT (kR 5 r) R)) : Tri Tryz.prog W fRT [aggJ (kR 5 r)] [] (sv (tB ([91] ++ (R ++ [93])))) [] := by
 have p6 := OT' (tB R) R (B4' _)
 have p7 : 1 + (tB R).size ≤ 9223372036854775807 := by rw [AW']; omega
 have p8 : (ByteArray.mk (Array.mk [91]) ++ tB R).size + 1 ≤ 9223372036854775807 := by rw [ByteArray.size_append, AW']; show 1 + R.length + 1 ≤ _; omega
 have p9 := R2' (tB R) (tB ([91] ++ (R ++ [93]))) [91] [93] (by rw [show bts (tB R) = R from B4' _]; exact (B4' _).symm)
 refine AD' (con := [(fRQ, cRQ)]) (hints := A9' [(fRT, 2, 0, hv (.lit false)), (fRT, 4, 0, hv (.lit false)), (fRT, 8, 0, hv (.lit false)), (fRT, 10, 0, hv (.lit false)), (fRT, 12, 0, hvo (sB 1101 0) 1101 (rB [])), (fRT, 21, 2, hv (.lit false)), (fRT, 23, 1, ht (tB R)), (fRT, 23, 2, h0), (fRT, 23, 3, h0v (sv (tB ([91] ++ (R ++ [93])))))]) (lc := [(fRT, 14, A2' fRT 14, lRT (kR 5 r) R)]) [] rfl (fun F hF => AO' (GF' F hF)) (fun F hF => BV' (YN' h F hF)) fun F => ?_
 refine Yj (oT5_eq W r (tB R) (tB ([91] ++ (R ++ [93]))) R F) ⟨⟨?_, (AJ' (vs' := [sv (tB ([91] ++ (R ++ [93])))]) (H' := []) [] rfl rfl (Yb) trivial).fits rfl⟩⟩
 simp only [AQ']
 simp only [Cnd.holds, AQ', Nat.blt_eq, true_and, and_true]
 and_intros
 all_goals first
  | (with_reducible exact p7)
  | (with_reducible exact p8)
  | exact p6
  | exact p6.1
  | exact p6.2
  | exact p9
  | exact T1'
  | exact G7' (Yd) | (with_reducible first | exact Ye | exact Yf | exact A4' _ | assumption) | exact Yf | ((repeat (first | exact VW.nil | refine Yg ?_ | refine Yh ?_ | refine Yi ?_)); done)
theorem t6 (r : Rj) (R : List UInt8) (hs : R.length ≤ 999998000) (h : LTri Tryz.prog W (A2' fRT 14) (tms 0 69 (aT 0 0)) (oT (kR 6 r) []) (.exit 1) (tms 0 69 [(1, .ptr 1000 0), (3, sB 1001 R.length)]) (oT (kR 6 r) R)) : Tri Tryz.prog W fRT [aggJ (kR 6 r)] [] (sv (tB ([123] ++ (R ++ [125])))) [] := by
 have p6 := OT' (tB R) R (B4' _)
 have p7 : 1 + (tB R).size ≤ 9223372036854775807 := by rw [AW']; omega
 have p8 : (ByteArray.mk (Array.mk [123]) ++ tB R).size + 1 ≤ 9223372036854775807 := by rw [ByteArray.size_append, AW']; show 1 + R.length + 1 ≤ _; omega
 have p9 := R2' (tB R) (tB ([123] ++ (R ++ [125]))) [123] [125] (by rw [show bts (tB R) = R from B4' _]; exact (B4' _).symm)
 refine AD' (con := [(fRQ, cRQ)]) (hints := A9' [(fRT, 2, 0, hv (.lit false)), (fRT, 4, 0, hv (.lit false)), (fRT, 8, 0, hv (.lit false)), (fRT, 10, 0, hv (.lit false)), (fRT, 12, 0, hvo (sB 1101 0) 1101 (rB [])), (fRT, 21, 2, hv (.lit true)), (fRT, 22, 1, ht (tB R)), (fRT, 22, 2, h0), (fRT, 22, 3, h0v (sv (tB ([123] ++ (R ++ [125])))))]) (lc := [(fRT, 14, A2' fRT 14, lRT (kR 6 r) R)]) [] rfl (fun F hF => AO' (GF' F hF)) (fun F hF => BV' (YN' h F hF)) fun F => ?_
 refine Yj (oT6_eq W r (tB R) (tB ([123] ++ (R ++ [125]))) R F) ⟨⟨?_, (AJ' (vs' := [sv (tB ([123] ++ (R ++ [125])))]) (H' := []) [] rfl rfl (Yb) trivial).fits rfl⟩⟩
 simp only [AQ']
 simp only [Cnd.holds, AQ', Nat.blt_eq, true_and, and_true]
 and_intros
 all_goals first
  | (with_reducible exact p7)
  | (with_reducible exact p8)
  | exact p6
  | exact p6.1
  | exact p6.2
  | exact p9
  | exact T1'
  | exact G7' (Yd) | (with_reducible first | exact Ye | exact Yf | exact A4' _ | assumption) | exact Yf | ((repeat (first | exact VW.nil | refine Yg ?_ | refine Yh ?_ | refine Yi ?_)); done)
theorem SN' (t : ByteArray) : tB (bts t) = t := CV' (B4' _)
theorem ON' : ∀ (d : Nat) (v : Jv) (r : Rj) (dep : Nat), JAt W.cell? d v r → errJ d v dep = 0 → (B3' d v).length ≤ 999998000 → Tri Tryz.prog W fRT [aggJ r] [] (sv (tB (B3' d v))) []
 | 0, _, _, _, h, _, _ => h.elim
 | d + 1, v, r, dep, h, he, hlen => by
  obtain ⟨⟨i1, i2, i3, i4, i5⟩, al, af⟩ := h
  rw [JX'] at he
  have he1 : errT v dep = 0 := by
   unfold orE at he
   split at he
   ·exact absurd he (by assumption)
   ·exact Decidable.not_not.1 (by assumption)
  have he2 : errL (fun x => errJ d x (dep + 1)) (v.kind == 6) v.names 0 v.list = 0 := by
   unfold orE at he
   rw [he1] at he
   exact he
  have hf : ∀ u x, u ∈ v.list → JAt W.cell? d u x → (B3' d u).length ≤ 999998000 → Tri Tryz.prog W fRT [aggJ x] [] (sv (tB (B3' d u))) [] := fun u x hu hj hl => ON' d u x (dep + 1) hj (LW' he2 u hu) hl
  have hps : ∀ u x, u ∈ v.list → JAt W.cell? d u x → 0 < (B3' d u).length := fun u x hu hj => MX' hj (LW' he2 u hu)
  unfold errT at he1
  by_cases hlo : v.kind < 1
  ·rw [if_pos hlo] at he1; cases he1
  rw [if_neg hlo] at he1
  by_cases hhi : 6 < v.kind
  ·rw [if_pos hhi] at he1; cases he1
  rw [if_neg hhi] at he1
  obtain ⟨K, hK⟩ : ∃ K : Nat, v.kind = Int.ofNat K := ⟨v.kind.toNat, by simp only [Z0]; omega⟩
  have hKn : v.kind.toNat = K := by rw [hK]; rfl
  have hrk : r.k = Int.ofNat K := i1.trans hK
  have hee : errK v.kind.toNat v.num v.text v.list.length v.names.length dep = errE K r dep := by rw [hKn, ← i2, ← i3, ← i4, ← i5]; rfl
  rw [hee] at he1
  have hkr : kW K r = r := by unfold kW; rw [← hrk]
  have hkr2 : kR K r = r := ST' K hrk
  have hKc : K = 1 ∨ K = 2 ∨ K = 3 ∨ K = 4 ∨ K = 5 ∨ K = 6 := by
   have h1 : ¬ (K : Int) < 1 := by rw [hK] at hlo; exact hlo
   have h2 : ¬ 6 < (K : Int) := by rw [hK] at hhi; exact hhi
   omega
  rcases hKc with rfl | rfl | rfl | rfl | rfl | rfl
  ·have ht : B3' (d + 1) v = [110, 117, 108, 108] := by rw [B3', if_pos (show v.kind = 1 from hK)]
   rw [ht]
   have := t1 (W := W) r
   rw [hkr] at this
   exact this
  ·have ht : B3' (d + 1) v = bts (fbT (r.n == Int.ofNat 1)) := by rw [B3', hK, if_neg (by decide), if_pos (by decide), i2]
   rw [ht, SN']
   have := t2 (W := W) r
   rw [hkr] at this
   exact this
  ·have ht : B3' (d + 1) v = bts r.t := by rw [B3', hK, if_neg (by decide), if_neg (by decide), if_pos (by decide), i3]
   rw [ht, SN']
   have := t3 (W := W) r
   rw [hkr] at this
   exact this
  ·have ht : B3' (d + 1) v = AM' (bts r.t) := by rw [B3', hK, if_neg (by decide), if_neg (by decide), if_neg (by decide), if_pos (by decide), i3]
   rw [ht] at hlen ⊢
   have := t4 (W := W) r (by omega)
   rw [hkr] at this
   exact this
  ·have ht : B3' (d + 1) v = [91] ++ (BL' (B3' d) false v.names 0 v.list ++ [93]) := by rw [B3', hK, if_neg (by decide), if_neg (by decide), if_neg (by decide), if_neg (by decide), if_pos (by decide)]
   rw [ht] at hlen ⊢
   simp only [List.length_append, List.length_cons, List.length_nil] at hlen
   have := t5 (W := W) r (BL' (B3' d) false v.names 0 v.list) (by omega) (by
    rw [hkr2]
    exact YF' (B3' d) hf hps al af i4 i5 false hrk (by intro h; cases h) _ rfl (by omega))
   rw [hkr2] at this
   exact this
  ·have ht : B3' (d + 1) v = [123] ++ (BL' (B3' d) true v.names 0 v.list ++ [125]) := by rw [B3', hK, if_neg (by decide), if_neg (by decide), if_neg (by decide), if_neg (by decide), if_neg (by decide)]
   rw [ht] at hlen ⊢
   simp only [List.length_append, List.length_cons, List.length_nil] at hlen
   have hnl := HZ' he1
   have := t6 (W := W) r (BL' (B3' d) true v.names 0 v.list) (by omega) (by
    rw [hkr2]
    exact YF' (B3' d) hf hps al af i4 i5 true hrk (fun _ => by omega) _ rfl (by omega))
   rw [hkr2] at this
   exact this
theorem S4' {d : Nat} {v : Jv} {r : Rj} (h : JAt W.cell? d v r) (hw : wJ d v ≤ 4000000) (he : errJ d v 1 ≠ 0) : Tri Tryz.prog W fRW [aggJ r] [] (.tuple [sv nil0, iv (errJ d v 1)]) [] := by
 have hc := ID' W d v r 1 h hw (by decide)
 have e1 : (errJ d v 1 != Int.ofNat 0) = true := bne_iff_ne.2 he
 refine AD' (con := [(fWg, cCk r 1 (errJ d v 1))]) (hints := A9' [(fRW, 2, 1, hv (.lit true))]) (lc := []) [] rfl (fun F hF => AO' (QY' hc F hF)) (fun F _ => noL) fun F => ?_
 refine Yj (aT' W r (errJ d v 1) F) ⟨⟨?_, (AJ' (vs' := [.tuple [sv nil0, iv (errJ d v 1)]]) (H' := []) [] rfl rfl (Yb) trivial).fits rfl⟩⟩
 simp only [Cnd.holds, Nat.blt_eq, true_and, and_true]
 and_intros
 all_goals first
  | exact A0' e1 | (with_reducible first | exact Ye | exact Yf | exact A4' _ | assumption) | exact Yf | ((repeat (first | exact VW.nil | refine Yg ?_ | refine Yh ?_ | refine Yi ?_)); done)
theorem VK' {d : Nat} {v : Jv} {r : Rj} (h : JAt W.cell? d v r) (hw : wJ d v ≤ 4000000) (he : errJ d v 1 = 0) (hl : (B3' d v).length ≤ 999998000) : Tri Tryz.prog W fRW [aggJ r] [] (.tuple [sv (tB (B3' d v)), iv 0]) [] := by
 have hc := ID' W d v r 1 h hw (by decide)
 rw [he] at hc
 refine AD' (con := [(fWg, cCk r 1 0), (fRT, cRT r (B3' d v))]) (hints := A9' [(fRW, 2, 1, hv (.lit false))]) (lc := []) [] rfl (fun F hF => AC' (QY' hc F hF) (AO' (O5' (ON' d v r 1 h he hl) F hF))) (fun F _ => noL) fun F => ?_
 refine Yj (aS' W r (B3' d v) F) ⟨⟨?_, (AJ' (vs' := [.tuple [sv (tB (B3' d v)), iv 0]]) (H' := []) [] rfl rfl (Yb) trivial).fits rfl⟩⟩
 simp only [Cnd.holds, Nat.blt_eq, true_and, and_true]
 and_intros
 all_goals first | (with_reducible first | exact Ye | exact Yf | exact A4' _ | assumption) | exact Yf | ((repeat (first | exact VW.nil | refine Yg ?_ | refine Yh ?_ | refine Yi ?_)); done)
end Go.Proofs.YtdphpillcaajpaaGreatDoor.Js
namespace Go.Proofs.YtdphpillcaajpaaGreatDoor.Tree
open Go Go.RowKit Eng Kit
inductive Tv where
 | mk (kind num : Int) (text : ByteArray) (list : List Tv) (tab : List (ByteArray × Tv))
 deriving Inhabited
abbrev Tf := List (ByteArray × Tv)
def Tv.kind : Tv → Int
 | .mk k _ _ _ _ => k
def Tv.num : Tv → Int
 | .mk _ n _ _ _ => n
def Tv.text : Tv → ByteArray
 | .mk _ _ t _ _ => t
def Tv.list : Tv → List Tv
 | .mk _ _ _ l _ => l
def Tv.tab : Tv → Tf
 | .mk _ _ _ _ f => f
structure Rv where
 k : Int
 n : Int
 t : ByteArray
 la : Option Addr
 ll : Nat
 lc : Nat
 ta : Option Addr
 tl : Nat
 tc : Nat
 deriving Inhabited
def Rv.cells (r : Rv) : List Value := [.int .i64 r.k, .int .i64 r.n, .string r.t, .slice r.la r.ll r.lc, .slice r.ta r.tl r.tc]
abbrev Mem := Addr → Option Value
def Cells (C : Mem) (a : Addr) (cs : List Value) : Prop := ∀ j u, cs[j]? = some u → C (a.add j) = some u
def big : Nat := 140737488351232
def LOf (V : Tv → Rv → Prop) (C : Mem) (oa : Option Addr) (l : List Tv) : Prop := l.length * 80 ≤ big ∧ ∀ i x, l[i]? = some x → ∃ a r, oa = some a ∧ Cells C (a.add (i * 5)) r.cells ∧ V x r
def FOf (V : Tv → Rv → Prop) (C : Mem) (oa : Option Addr) (f : Tf) : Prop := f.length * 96 ≤ big ∧ ∀ i nm x, f[i]? = some (nm, x) → ∃ a r, oa = some a ∧ Cells C (a.add (i * 6)) (.string nm :: r.cells) ∧ V x r
def VAt (C : Mem) : Nat → Tv → Rv → Prop
 | 0 => fun _ _ => False
 | d + 1 => fun v r => (r.k = v.kind ∧ r.n = v.num ∧ r.t = v.text ∧ r.ll = v.list.length ∧ r.tl = v.tab.length) ∧ LOf (VAt C d) C r.la v.list ∧ FOf (VAt C d) C r.ta v.tab
abbrev LAt (C : Mem) (d : Nat) := LOf (VAt C d) C
abbrev FAt (C : Mem) (d : Nat) := FOf (VAt C d) C
theorem Cells.mono {C C' : Mem} (h : ∀ a v, C a = some v → C' a = some v) {a : Addr} {cs : List Value} (hc : Cells C a cs) : Cells C' a cs := fun j u hu => h _ _ (hc j u hu)
theorem LOf.mono {V V' : Tv → Rv → Prop} (hV : ∀ x r, V x r → V' x r) {C C' : Mem} (h : ∀ a v, C a = some v → C' a = some v) {oa : Option Addr} {l : List Tv} (hl : LOf V C oa l) : LOf V' C' oa l :=
 ⟨hl.1, fun i x hx => by
  obtain ⟨a, r, h1, h2, h3⟩ := hl.2 i x hx
  exact ⟨a, r, h1, h2.mono h, hV _ _ h3⟩⟩
theorem FOf.mono {V V' : Tv → Rv → Prop} (hV : ∀ x r, V x r → V' x r) {C C' : Mem} (h : ∀ a v, C a = some v → C' a = some v) {oa : Option Addr} {f : Tf} (hf : FOf V C oa f) : FOf V' C' oa f :=
 ⟨hf.1, fun i nm x hx => by
  obtain ⟨a, r, h1, h2, h3⟩ := hf.2 i nm x hx
  exact ⟨a, r, h1, h2.mono h, hV _ _ h3⟩⟩
theorem VAt.mono {C C' : Mem} (h : ∀ a v, C a = some v → C' a = some v) : ∀ {d : Nat} {v : Tv} {r : Rv}, VAt C d v r → VAt C' d v r
 | 0, _, _, hv => hv.elim
 | d + 1, v, r, hv => ⟨hv.1, hv.2.1.mono (fun x r hx => VAt.mono h hx) h, hv.2.2.mono (fun x r hx => VAt.mono h hx) h⟩
theorem LAt.mono {C C' : Mem} (h : ∀ a v, C a = some v → C' a = some v) {d : Nat} {oa : Option Addr} {l : List Tv} (hl : LAt C d oa l) : LAt C' d oa l := LOf.mono (fun _ _ hx => VAt.mono h hx) h hl
theorem FAt.mono {C C' : Mem} (h : ∀ a v, C a = some v → C' a = some v) {d : Nat} {oa : Option Addr} {l : Tf} (hl : FAt C d oa l) : FAt C' d oa l := FOf.mono (fun _ _ hx => VAt.mono h hx) h hl
noncomputable section
def C9' (D : Nat → Prop) (w : World) : Mem := fun a => by classical exact if D a.block then w.cell? a else none
theorem LQ' {D : Nat → Prop} {w : World} {a : Addr} (h : D a.block) : C9' D w a = w.cell? a := by unfold C9'; rw [if_pos h]
theorem HW' {D : Nat → Prop} {w : World} {a : Addr} {v : Value} (h : C9' D w a = some v) : D a.block ∧ w.cell? a = some v := by
 unfold C9' at h
 split at h
 ·rename_i hd; exact ⟨hd, h⟩
 ·cases h
theorem D6' {D D' : Nat → Prop} {w : World} (h : ∀ b, D b → D' b) : ∀ a v, C9' D w a = some v → C9' D' w a = some v := fun a v ha => by
 obtain ⟨h1, h2⟩ := HW' ha
 rw [LQ' (h _ h1)]; exact h2
theorem XX' {w w' : World} {a : Addr} (h : w'.heap[a.block]? = w.heap[a.block]?) : w'.cell? a = w.cell? a := by unfold World.cell?; rw [h]
theorem TT' {D : Nat → Prop} {w w' : World} (h : ∀ b, D b → w'.heap[b]? = w.heap[b]?) : C9' D w' = C9' D w := by
 funext a
 unfold C9'
 split
 ·rename_i hd; exact XX' (h _ hd)
 ·rfl
def frz (P : Mem → Prop) : HP where
 on D w := P (C9' D w) ∧ ∀ b, D b → b < w.heap.size
 far {D w w'} hf := fun ⟨h1, h2⟩ => ⟨by rw [TT' hf]; exact h1, fun b hb => by
  have h3 := hf b hb
  rw [Array.getElem?_eq_getElem (h2 b hb)] at h3
  exact (Array.getElem?_eq_some_iff.1 h3).1⟩
 lt {D w} := fun ⟨_, h2⟩ => h2
theorem KY' {W0 w : World} {F : HP} {N1 : A8'} {H H' : LH} {D0 : Nat → Prop} {D : Nat → Nat → Prop} (hl : AF' 1100 H = true) (hl' : AF' 1100 H' = true) (r : Rep W0 N1 F (AX' H) w)
  (h1 : F.on D0 w) (h2 : ∀ i o, getO H i = some o → OR N1 i o (D i) w ∧ ∀ b, D i b → ¬ D0 b) (h3 : ∀ i j o o', getO H i = some o → getO H j = some o' → i ≠ j → ∀ b, D i b → ¬ D j b)
  (k : Nat) (S : Nat → Prop) (hkS : ¬ S k) {ok : AO} (hk0 : getO H k = some ok)
  (hn : ∀ n o', n ≠ k → getO H' n = some o' → ¬ S n ∧ ∃ o, getO H n = some o ∧ OR N1 n o' (D n) w)
  (hk : ∀ o', getO H' k = some o' → OR N1 k o' (fun x => D k x ∨ ∃ j, S j ∧ (∃ o, getO H j = some o) ∧ D j x) w) : Rep W0 N1 F (AX' H') w := by
 classical
 have hf' : ∀ n, (AX' H').find n = getO H' n := B2' (NH' hl')
 refine ⟨r.os, r.tape, r.output, D0, fun n x => if n = k then (D k x ∨ ∃ j, S j ∧ (∃ o, getO H j = some o) ∧ D j x) else D n x, h1, fun n o hno => ?_, fun n m o o' hno hmo hnm b hb hb' => ?_⟩
 ·rw [hf'] at hno
  by_cases e : n = k
  ·subst e
   simp only [if_true]
   refine ⟨hk o hno, fun b hb => ?_⟩
   rcases hb with hb | ⟨j, _, ⟨oj, hj⟩, hb⟩
   ·exact (h2 n _ hk0).2 b hb
   ·exact (h2 j _ hj).2 b hb
  ·simp only [if_neg e]
   obtain ⟨_, o0, q1, q2⟩ := hn n o e hno
   exact ⟨q2, (h2 n _ q1).2⟩
 ·rw [hf'] at hno hmo
  have key : ∀ m o', getO H' m = some o' → m ≠ k → ∀ b, (D k b ∨ ∃ j, S j ∧ (∃ o, getO H j = some o) ∧ D j b) → ¬ D m b := by
   intro m o' hm hmk b hb
   obtain ⟨q0, o1, q1, _⟩ := hn m o' hmk hm
   rcases hb with hb | ⟨j, hj, ⟨oj, hjo⟩, hb⟩
   ·exact h3 k m _ _ hk0 q1 (Ne.symm hmk) b hb
   ·exact h3 j m _ _ hjo q1 (fun e => q0 (e ▸ hj)) b hb
  by_cases e : n = k
  ·subst e
   simp only [if_true] at hb
   have e' : m ≠ n := Ne.symm hnm
   simp only [if_neg e'] at hb'
   exact key m o' hmo e' b hb hb'
  ·simp only [if_neg e] at hb
   by_cases e' : m = k
   ·subst e'
    simp only [if_true] at hb'
    exact key n o hno e b hb' hb
   ·simp only [if_neg e'] at hb'
    obtain ⟨_, o1, q1, _⟩ := hn n o e hno
    obtain ⟨_, o2, q2, _⟩ := hn m o' e' hmo
    exact h3 n m _ _ q1 q2 hnm b hb hb'
variable (m : Md)
def ownL (d : Nat) (l : List Tv) : AO := .own m fun b _ => frz fun C => LAt C d (some ⟨b, 0, none⟩) l
variable {m}
theorem LOf.nil {V : Tv → Rv → Prop} {C : Mem} (oa : Option Addr) : LOf V C oa [] := ⟨Nat.zero_le _, fun i x h => by simp at h⟩
theorem FOf.nil {V : Tv → Rv → Prop} {C : Mem} (oa : Option Addr) : FOf V C oa [] := ⟨Nat.zero_le _, fun i nm x h => by simp at h⟩
theorem J8' {N : A8'} {k n sz : Nat} {y : Value} (h : VR N (.slice k 0 n sz (.lo n)) y) : ∃ l x c, N k = some l ∧ y = .slice (some ⟨l.blk, x, none⟩) n c ∧ (0 < n → x = l.off) := by
 simp only [VR] at h
 obtain ⟨l, x, c, h1, h2, h3, h4, h5, h6⟩ := h
 refine ⟨l, x, c, h1, h2, fun hn => ?_⟩
 rcases h3 with h3 | h3
 ·rw [h3, Nat.add_zero]
 ·omega
def PF (d : Nat) (R : List (ByteArray × Rv)) (f : Tf) (C : Mem) : Prop := R.length = f.length ∧ ∀ (i : Nat) (nm : ByteArray) (x : Tv), f[i]? = some (nm, x) → ∃ r, R[i]? = some (nm, r) ∧ VAt C d x r
def PV (d : Nat) (R : List Rv) (l : List Tv) (C : Mem) : Prop := R.length = l.length ∧ ∀ (i : Nat) (x : Tv), l[i]? = some x → ∃ r, R[i]? = some r ∧ VAt C d x r
theorem PF.mono {d : Nat} {R : List (ByteArray × Rv)} {f : Tf} {C C' : Mem} (h : ∀ a v, C a = some v → C' a = some v) (hp : PF d R f C) : PF d R f C' := ⟨hp.1, fun i nm x hx => by
 obtain ⟨r, h1, h2⟩ := hp.2 i nm x hx
 exact ⟨r, h1, h2.mono h⟩⟩
theorem PV.mono {d : Nat} {R : List Rv} {l : List Tv} {C C' : Mem} (h : ∀ a v, C a = some v → C' a = some v) (hp : PV d R l C) : PV d R l C' := ⟨hp.1, fun i x hx => by
 obtain ⟨r, h1, h2⟩ := hp.2 i x hx
 exact ⟨r, h1, h2.mono h⟩⟩
theorem PF.add {d : Nat} {R : List (ByteArray × Rv)} {f : Tf} {C : Mem} (hp : PF d R f C) {nm : ByteArray} {x : Tv} {r : Rv} (hx : VAt C d x r) : PF d (R ++ [(nm, r)]) (f ++ [(nm, x)]) C := by
 refine ⟨by simp [hp.1], fun i n y hy => ?_⟩
 rcases Nat.lt_or_ge i f.length with h | h
 ·rw [List.getElem?_append_left h] at hy
  obtain ⟨s, h1, h2⟩ := hp.2 i n y hy
  exact ⟨s, by rw [List.getElem?_append_left (by have := hp.1; omega)]; exact h1, h2⟩
 ·rw [List.getElem?_append_right h] at hy
  have : i - f.length = 0 := by
   cases hk : i - f.length with
   | zero => rfl
   | succ n => rw [hk] at hy; simp at hy
  rw [this] at hy
  simp only [List.getElem?_cons_zero, Option.some.injEq, Prod.mk.injEq] at hy
  obtain ⟨rfl, rfl⟩ := hy
  refine ⟨r, ?_, hx⟩
  rw [List.getElem?_append_right (by have := hp.1; omega), show i - R.length = 0 by have := hp.1; omega]
  rfl
theorem PV.add {d : Nat} {R : List Rv} {f : List Tv} {C : Mem} (hp : PV d R f C) {x : Tv} {r : Rv} (hx : VAt C d x r) : PV d (R ++ [r]) (f ++ [x]) C := by
 refine ⟨by simp [hp.1], fun i y hy => ?_⟩
 rcases Nat.lt_or_ge i f.length with h | h
 ·rw [List.getElem?_append_left h] at hy
  obtain ⟨s, h1, h2⟩ := hp.2 i y hy
  exact ⟨s, by rw [List.getElem?_append_left (by have := hp.1; omega)]; exact h1, h2⟩
 ·rw [List.getElem?_append_right h] at hy
  have : i - f.length = 0 := by
   cases hk : i - f.length with
   | zero => rfl
   | succ n => rw [hk] at hy; simp at hy
  rw [this] at hy
  simp only [List.getElem?_cons_zero, Option.some.injEq] at hy
  subst hy
  refine ⟨r, ?_, hx⟩
  rw [List.getElem?_append_right (by have := hp.1; omega), show i - R.length = 0 by have := hp.1; omega]
  rfl
end
noncomputable section
theorem PM' {N : A8'} {i : Nat} {a b : List AV} {e : TypeId} {D : Nat → Prop} {w : World} (h : OR N i (.cells (a ++ b) e) D w) : ∃ yb, VRs N b yb ∧ ∀ c : List AV, c.length = b.length → VRs N c yb → OR N i (.cells (a ++ c) e) D w := by
 obtain ⟨l, arr, fz, h1, h2, h3, h4, h5, h6, h7, h8⟩ := h
 obtain ⟨ys, hys⟩ : ∃ ys, (arr.toList.drop l.off).take (a ++ b).length = ys := ⟨_, rfl⟩
 have key : ∀ (a : List AV) (ys : List Value), VRs N (a ++ b) ys → ∃ yb, VRs N b yb ∧ ∀ c : List AV, VRs N c yb → VRs N (a ++ c) ys := by
  intro a
  induction a with
  | nil => exact fun ys hy => ⟨ys, hy, fun c hc => hc⟩
  | cons x a ih =>
   intro ys hy
   obtain ⟨y, r, q1, q2, rfl⟩ := hy
   obtain ⟨yb, q3, q4⟩ := ih r q2
   exact ⟨yb, q3, fun c hc => ⟨y, r, q1, q4 c hc, rfl⟩⟩
 rw [hys] at h7
 obtain ⟨yb, q3, q4⟩ := key a ys h7
 refine ⟨yb, q3, fun c hc hv => ⟨l, arr, fz, h1, h2, h3, h4, ?_, h6, ?_, h8⟩⟩
 ·rw [List.length_append, hc, ← List.length_append]; exact h5
 ·rw [List.length_append, hc, ← List.length_append, hys]; exact q4 c hv
theorem SS' {W0 w : World} {F : HP} {N : A8'} {H : LH} {vs : List AV} {ys : List Value} (hl : AF' 1100 H = true) (hs : St W0 F N H vs ys w) (i k : Nat) (S : List Nat) (hik : i ≠ k) (hiS : i ∉ S) (hkS : k ∉ S) {a b : List AV} {e : TypeId} {ok : AO}
  (hi : getO H i = some (.cells (a ++ b) e)) (hk : getO H k = some ok) (hkl : ∀ N1 D w, OR N1 k ok D w → ∀ b, D b → b < w.heap.size) (Q : List Value → Mem → Prop)
  (core : ∀ (N1 : A8') (D : Nat → Nat → Prop), (∀ n o, getO H n = some o → OR N1 n o (D n) w) → ∀ yb, VRs N1 b yb → ∃ c : List Value, c.length = b.length ∧ VRs N1 (vmap c) yb ∧ Q c (C9' (fun x => D k x ∨ ∃ j, j ∈ S ∧ (∃ o, getO H j = some o) ∧ D j x) w)) :
  ∃ c, (∃ C, Q c C) ∧ ∀ (H' : LH) (Q' : Mem → Prop), AF' 1100 H' = true → getO H' i = some (.cells (a ++ vmap c) e) → getO H' k = some (.any (frz Q')) → (∀ C, Q c C → Q' C) → (∀ n o, n ≠ i → n ≠ k → getO H' n = some o → n ∉ S ∧ getO H n = some o) →
   AV.cls (fun n => Nat.blt n 1000 || (getO H' n).isSome) vs → (∀ x ∈ H', x.2.cl (fun n => Nat.blt n 1000 || (getO H' n).isSome)) → St W0 F N H' vs ys w := by
 obtain ⟨N1, g1, g2, r, hvs⟩ := hs
 obtain ⟨D0, D, h1, h2, h3⟩ := r.sat
 have hf : ∀ n, (AX' H).find n = getO H n := B2' (NH' hl)
 have h2' : ∀ n o, getO H n = some o → OR N1 n o (D n) w ∧ ∀ b, D n b → ¬ D0 b := fun n o hn => h2 n o (by rw [hf]; exact hn)
 obtain ⟨yb, q1, q2⟩ := PM' (h2' i _ hi).1
 obtain ⟨c, c1, c2, c3⟩ := core N1 D (fun n o hn => (h2' n o hn).1) yb q1
 refine ⟨c, ⟨_, c3⟩, fun H' Q' hl' hi' hk' hQ hn hv ho => J5' hl' g1 (KY' hl hl' r h1 h2' (fun n m o o' hn hm => h3 n m o o' (by rw [hf]; exact hn) (by rw [hf]; exact hm)) k (fun n => n ∈ S) hkS hk (fun n o' hnk hno => ?_) fun o' hko => ?_) hvs hv ho⟩
 ·by_cases hni : n = i
  ·subst hni
   rw [hi'] at hno
   cases hno
   exact ⟨hiS, _, hi, q2 _ (by rw [show (vmap c).length = c.length by simp [vmap]]; exact c1) c2⟩
  ·obtain ⟨a1, a2⟩ := hn n o' hni hnk hno
   exact ⟨a1, o', a2, (h2' n o' a2).1⟩
 ·rw [hk'] at hko
  cases hko
  refine ⟨hQ _ c3, fun b hb => ?_⟩
  rcases hb with hb | ⟨j, _, ⟨oj, hj⟩, hb⟩
  ·exact (h2' k _ hk).1.lt b hb
  ·exact (h2' j _ hj).1.lt b hb
theorem five {N : A8'} {k n : Int} {t : ByteArray} {LV TV : AV} {yb : List Value} (h : VRs N [iv k, iv n, sv t, LV, TV] yb) : ∃ yl yt, VR N LV yl ∧ VR N TV yt ∧ yb = [.int .i64 k, .int .i64 n, .string t, yl, yt] := by
 obtain ⟨y0, r0, a0, h, rfl⟩ := h
 obtain ⟨y1, r1, a1, h, rfl⟩ := h
 obtain ⟨y2, r2, a2, h, rfl⟩ := h
 obtain ⟨y3, r3, a3, h, rfl⟩ := h
 obtain ⟨y4, r4, a4, h, rfl⟩ := h
 have h : r4 = [] := h
 subst h
 have a0 : y0 = .int .i64 k := VR_v.1 a0
 have a1 : y1 = .int .i64 n := VR_v.1 a1
 have a2 : y2 = .string t := VR_v.1 a2
 subst a0 a1 a2
 exact ⟨y3, y4, a3, a4, rfl⟩
theorem UV' {N : A8'} {i : Nat} {cs : List Value} {e : TypeId} {D : Nat → Prop} {w : World} (h : OR N i (.cells (vmap cs) (2 * e)) D w) : ∃ l, N i = some l ∧ l.off = 0 ∧ ∀ j u, cs[j]? = some u → C9' D w ⟨l.blk, j, none⟩ = some u := by
 obtain ⟨l, arr, fz, h1, h2, h3, h4, h5, h6, h7, h8⟩ := h
 obtain ⟨z, _⟩ := h8 (Nat.mul_mod_right 2 e)
 refine ⟨l, h1, z, fun j u hj => ?_⟩
 rw [LQ' ((h2 _).2 rfl)]
 have h7 := VRs.of_vmap h7
 have hlen : (vmap cs).length = cs.length := by simp [vmap]
 rw [z, List.drop_zero, hlen] at h7
 unfold World.cell?
 simp only [h3]
 have hj' := (List.getElem?_eq_some_iff.1 hj).1
 have : (arr.toList.take cs.length)[j]? = some u := by rw [h7]; exact hj
 rw [List.getElem?_take_of_lt hj'] at this
 simpa using this
theorem YJ' {α : Type} {f : α → List Value} {m : Nat} (hf : ∀ x, (f x).length = m) : ∀ (l : List α) (k j : Nat) (x : α), l[k]? = some x → j < m → (l.flatMap f)[k * m + j]? = (f x)[j]?
 | [], k, j, x, h, _ => by simp at h
 | y :: l, 0, j, x, h, hj => by
  simp only [List.getElem?_cons_zero, Option.some.injEq] at h
  subst h
  rw [List.flatMap_cons, Nat.zero_mul, Nat.zero_add, List.getElem?_append_left (by rw [hf]; exact hj)]
 | y :: l, k + 1, j, x, h, hj => by
  rw [List.getElem?_cons_succ] at h
  rw [List.flatMap_cons, List.getElem?_append_right (by rw [hf, Nat.succ_mul]; omega), hf, show (k + 1) * m + j - m = k * m + j from by rw [Nat.succ_mul]; omega]
  exact YJ' hf l k j x h hj
theorem e7' (b n j : Nat) : ((Addr.mk b 0 none).add n).add j = Addr.mk b (n + j) none := by
 unfold Addr.add
 split
 ·rename_i hj
  subst hj
  split
  ·rename_i hn; subst hn; rfl
  ·show Addr.mk b (0 + n) none = _; rw [Nat.zero_add, Nat.add_zero]
 ·split
  ·rename_i hn; subst hn; rfl
  ·show Addr.mk b (0 + n + j) none = _; rw [Nat.zero_add]
theorem OS' {α : Type} {f : α → List Value} {m : Nat} (hf : ∀ x, (f x).length = m) {N : A8'} {i : Nat} {R : List α} {e : TypeId} {D : Nat → Prop} {w : World} (h : OR N i (.cells (rowV f R) (2 * e)) D w) :
  ∃ l, N i = some l ∧ l.off = 0 ∧ ∀ k x, R[k]? = some x → Cells (C9' D w) ((Addr.mk l.blk 0 none).add (k * m)) (f x) := by
 obtain ⟨l, h1, h2, h3⟩ := UV' (cs := R.flatMap f) h
 refine ⟨l, h1, h2, fun k x hx j u hu => ?_⟩
 rw [e7']
 refine h3 _ _ ?_
 rw [YJ' hf R k j x hx (by rw [← hf x]; exact (List.getElem?_eq_some_iff.1 hu).1)]
 exact hu
theorem QA' {W0 w : World} {F : HP} {N : A8'} {H H' : LH} {vs : List AV} {ys : List Value} (hl : AF' 1100 H = true) (hl' : AF' 1100 H' = true) (hs : St W0 F N H vs ys w) (i k : Nat) (hik : i ≠ k) {oi o2 : AO} {P : Mem → Prop}
  (hi : getO H i = some oi) (hk : getO H k = some (.any (frz P))) (hi' : getO H' i = some o2) (hk' : getO H' k = none) (hn : ∀ n o, n ≠ i → n ≠ k → getO H' n = some o → getO H n = some o)
  (core : ∀ N1 Di Dk, OR N1 i oi Di w → P (C9' Dk w) → (∀ b, Dk b → b < w.heap.size) → (∀ b, Di b → ¬ Dk b) → OR N1 i o2 (fun x => Di x ∨ Dk x) w)
  (hv : AV.cls (fun n => Nat.blt n 1000 || (getO H' n).isSome) vs) (ho : ∀ x ∈ H', x.2.cl (fun n => Nat.blt n 1000 || (getO H' n).isSome)) : St W0 F N H' vs ys w := by
 obtain ⟨N1, g1, g2, r, hvs⟩ := hs
 obtain ⟨D0, D, h1, h2, h3⟩ := r.sat
 have hf : ∀ n, (AX' H).find n = getO H n := B2' (NH' hl)
 have h2' : ∀ n o, getO H n = some o → OR N1 n o (D n) w ∧ ∀ b, D n b → ¬ D0 b := fun n o hn => h2 n o (by rw [hf]; exact hn)
 have h3' : ∀ n m o o', getO H n = some o → getO H m = some o' → n ≠ m → ∀ b, D n b → ¬ D m b := fun n m o o' hn hm => h3 n m o o' (by rw [hf]; exact hn) (by rw [hf]; exact hm)
 refine J5' hl' g1 (KY' hl hl' r h1 h2' h3' i (fun n => n = k) hik hi (fun n o' hni hno => ?_) fun o' hio => ?_) hvs hv ho
 ·have hnk : n ≠ k := fun e => by rw [e, hk'] at hno; cases hno
  have := hn n o' hni hnk hno
  exact ⟨hnk, o', this, (h2' n o' this).1⟩
 ·rw [hi'] at hio
  cases hio
  have hkk := (h2' k _ hk).1
  have := core N1 (D i) (D k) (h2' i _ hi).1 hkk.1 hkk.2 (h3' i k _ _ hi hk hik)
  have e : (fun x => D i x ∨ ∃ j, j = k ∧ (∃ o, getO H j = some o) ∧ D j x) = fun x => D i x ∨ D k x := by
   funext x
   refine propext ⟨?_, ?_⟩
   ·rintro (h | ⟨j, rfl, _, h⟩)
    ·exact .inl h
    ·exact .inr h
   ·rintro (h | h)
    ·exact .inl h
    ·exact .inr ⟨k, rfl, ⟨_, hk⟩, h⟩
  rw [e]
  exact this
end
end Go.Proofs.YtdphpillcaajpaaGreatDoor.Tree
