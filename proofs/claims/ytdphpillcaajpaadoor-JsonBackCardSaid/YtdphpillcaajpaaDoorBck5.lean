/- Parts of the proof, merged. -/
import Derived.Test.YtdphpillcaajpaaDoorBck4
import Derived.Test.YtdphpillcaajpaaDoorBck3
import Derived.Test.YtdphpillcaajpaaDoorEngKit
import Derived.Test.YtdphpillcaajpaaDoorEngXBck
noncomputable section
set_option linter.unusedVariables false
set_option linter.unusedSimpArgs false
set_option maxRecDepth 100000
set_option linter.unusedSectionVars false
namespace Go.Proofs.YtdphpillcaajpaaDoor.Js
open Go Go.RowKit Eng Kit
open Int renaming ofNat -> o'
open Nat renaming le_of_ble_eq_true -> ble'
open Go.Value renaming int -> vi'
open AO renaming cells -> ce'
open AV renaming v -> v'
open AV renaming ptr -> pt'
open Go.IntKind renaming u8 -> u8'
open Cnd renaming holds -> ch'
open Nat renaming blt_eq -> bl'
open List renaming length_append -> la'
open List renaming length_drop -> ld'
variable {j k f n : Nat} {L b : Γ} {m : Δ} {HZ : LH} {x : UInt8}
noncomputable section
def hE4 (z : UInt8) : List (FuncId × Nat × Nat × Hint) := [hf' fEsc 15 1, hf' fEsc 18 1, hf' fEsc 18 4, (fEsc, 20, 2, hv (byv z))]
abbrev k121' (q0 : Nat) : Cnd := (wb' (decide (o' q0 > o' 56575)) g')
theorem dM' (W : World) (s t : Δ) (x z : UInt8) (i n lo c : Nat) (b2 : Bool) (F : HP) : uRun (trb c) (conE c) (AD' (hE2 t x i n lo b2 ++ hE4 z)) [] W fEsc [.ptr 0 0, nilS] (oU s i) [0, 999, 1101, 1102] F = VT.leaf (AV.slice 1101 0 1 1 (Cp.lo 1)) [some (ce' [s' s,i' (i + 5)] 114),some Ω,some (ce' [v' (vi' u8' ↑z.toNat)] 10),none] 1102 (mN' i s x n lo b2 ((k121' n).a ((k90' n z).a (k89'.a k1')))) := χ
theorem dN' (W : World) (s t : Δ) (P : Γ) (p : Nat) (x z : UInt8) (i n lo c : Nat) (b2 : Bool) (F : HP) : uRun (trb c) (UW' c P p) (AD' (hE2 t x i n lo b2 ++ hE4 z)) [] W fEsc [.ptr 0 0, sB 1001 p] (oUo s i P) [0, 999, 1101, 1102] F = VT.leaf (AV.slice 1101 0 (p + 1) 1 (Cp.lo (p + 1))) [some (ce' [s' s,i' (i + 5)] 114),some Ω,some (ce' (List.take (p * 1) (List.drop 0 (rowV encB P)) ++ [v' (vi' u8' ↑z.toNat)]) 10),none] 1102 (mN' i s x n lo b2 ((k121' n).a ((k90' n z).a ((k93' p P).a k1')))) := χ
end
theorem aL' {α β : Type} {p : AP α} (hp : RO p) {f : α -> AP β} (hf : ∀ a, RO (f a)) : RO (p.bind f) := by
 induction hp with
 | ret a => exact hf a
 | fail why => exact RO.fail why
 | read i k _ ih => exact RO.read i _ fun o => ih o
theorem mQ' : ∀ args, RO (gHex args) := fun args => by
 unfold gHex; split
 ·split
  ·exact aL' (TC' _) fun _ => RO.ret _
  ·exact RO.fail _
 ·exact RO.fail _
theorem mR' : ∀ args, RO (gARz args) := fun args => by
 unfold gARz
 repeat' split
 all_goals exact Kb21'
theorem mS' : ∀ args, RO (gARo args) := fun args => by
 unfold gARo
 repeat' split
 all_goals exact Kb21'
section
variable {W : World} {F : HP}
theorem ZZ' (hW : Pu.LW2 W) (hF : AH' W F) : C1OK Θ F fHex cHex :=
 BF' hF (fun p => hexT (hexA (bts p.s) p.m)) mQ' (fun _ => rfl) (fun p hp => nV' hW p.s hp.1 p.i p.m hp.2) fun p => ⟨rfl, rfl, ⟨rfl, Ye, Ye⟩, UG' _ _ _, ⟨⟨Ye, Ye, Ye⟩, Ye⟩, UG' _ _ _⟩
theorem nC' : C1OK Θ F fAR cARz :=
 BF' (W := default) GM' (fun n => sB 1001 (utf n).length) mR' (fun _ => rfl) (fun n hn => o1' n hn) fun n => ⟨rfl, rfl, ⟨Ye, Ye, Ye⟩, A4', ⟨rfl, Ye⟩, A2' (WQ' _ _) A4'⟩
theorem nD' (P : Γ) (p : Nat) : C1OK Θ F fAR (cARo P p) :=
 BF' (W := default) GM' (fun q => sB 1001 (P ++ utf q.1).length) mS' (fun _ => rfl) (fun q hq => o2' q.1 P p hq.2.1 hq.2.2 hq.1) fun q => ⟨rfl, rfl, ⟨rfl, Ye, Ye⟩, A2' (WQ' _ _) A4', ⟨rfl, Ye⟩, A2' (WQ' _ _) A4'⟩
theorem CE' (hW : Pu.LW2 W) (c : Nat) (F : HP) (hF : AH' W F) : ∀ x ∈ conE c, C8' Θ (trb c) F x.1 x.2 :=
 A1' (AS' hF c) (A1' (E2' hF).up (A1' (ZZ' hW hF).up (A1' (NU' hF).up (A1' nC'.up noCU))))
theorem IP' (hW : Pu.LW2 W) (c : Nat) (P : Γ) (p : Nat) (F : HP) (hF : AH' W F) : ∀ x ∈ UW' c P p, C8' Θ (trb c) F x.1 x.2 :=
 A1' (AS' hF c) (A1' (E2' hF).up (A1' (ZZ' hW hF).up (A1' (NU' hF).up (A1' (nD' P p).up noCU))))
end
theorem RC' (x : UInt8) : idxC (ByteArray.mk (Array.mk [34, 92, 47, 98, 102, 110, 114, 116])) ↑x.toNat = match whr escF x with | some k => (k : Int) | none => -1 := by
 have key : ∀ c : Fin 256, Lib.indexByte escF (UInt8.ofNat c.1) = match whr escF (UInt8.ofNat c.1) with | some k => (k : Int) | none => -1 := by decide +kernel
 have h := key ⟨x.toNat, x.toNat_lt⟩; simp only [UInt8.ofNat_toNat] at h; unfold idxC
 rw [show ((x.toNat : Int).toNat).toUInt8 = x by simp]
 exact h
theorem fM' (h : whr escF x = some k) : k < 8 := by
 have key : ∀ c : Fin 256, ∀ k, whr escF (UInt8.ofNat c.1) = some k -> k < 8 := by
  intro c k h; exact (List.findIdx?_eq_some_iff_findIdx_eq.1 h).1
 have h2 := key ⟨x.toNat, x.toNat_lt⟩ k; simp only [UInt8.ofNat_toNat] at h2; exact h2 h
section
variable {W : World} {s : Δ} {i c : Nat}
theorem eqN {a b : Nat} {q : Bool} (h : (a == b) = q) : (o' a == (b : Int)) = q := by
 rw [<- h, Bool.eq_iff_iff, beq_iff_eq, beq_iff_eq]; simp only [Z0]; omega
theorem wkI {z : Int} (h : z = o' n) (hn : n < 9223372036854775807) : Wk (v' (.int .i64 (IntKind.i64.wrap z))) (v' (.int .i64 (o' n))) := by
 subst h; have : IntKind.i64.wrap (o' n) = o' n := IntWalk.i64_in _ (by simp only [Z0]; omega); rw [this]; exact Ya
theorem wkR (hn : n < 2147483647) : Wk (v' (.int .i32 (IntKind.i32.wrap (o' n)))) (v' (.int .i32 (o' n))) := by
 have : IntKind.i32.wrap (o' n) = o' n := IntWalk.i32_in _ (by simp only [Z0]; omega); rw [this]; exact Ya
theorem ID' {cs : List AV} (hk : k = L.length) (hcs : cs = rowV encB L) : Fits [0, 999, 1101, 1102] [.slice 1101 0 k 1 (.lo k)] [some (rdO s j), some upO, some (.cells cs 10), none] [sB 1001 L.length] (oUo s j L) := by
 subst hk hcs; exact (AJ' (vs' := [sB 1001 L.length]) (H' := oUo s j L) [(1001, 1101)] χ χ (Yb) ⟨⟨_, rfl, Yc⟩, ⟨_, rfl, Yc⟩, ⟨_, rfl, QZ' rfl rfl⟩, Ye⟩).fits rfl
theorem DG' {σ : Nat -> Nat} (hk : k = L.length) : Fits [0, 999, 1100, 1101] [.slice 1100 0 k 1 (.lo k)] [some (rdO s j), some upO, some (.cells (AV.rens σ (rowV encB L)) 10), none] [sB 1001 L.length] (oUo s j L) := by
 subst hk; rw [AO']; exact (AJ' (vs' := [sB 1001 L.length]) (H' := oUo s j L) [(1001, 1100)] χ χ (Yb) ⟨⟨_, rfl, Yc⟩, ⟨_, rfl, Yc⟩, ⟨_, rfl, QZ' rfl rfl⟩, Ye⟩).fits rfl
theorem gM' (l : Γ) (k : Nat) (h : l[k]? = some 92 /\ l[k + 1]? = some 117) : Lib.hasPrefix (l.drop k) [92, 117] = true := by
 have h0 : (l.drop k)[0]? = some 92 := by rw [List.getElem?_drop]; exact h.1
 have h1 : (l.drop k)[1]? = some 117 := by rw [List.getElem?_drop]; exact h.2
 unfold Lib.hasPrefix
 match hm : l.drop k, h0, h1 with
 | a :: b :: r, h0, h1 =>
  simp only [List.getElem?_cons_zero, Option.some.injEq] at h0; simp only [List.getElem?_cons_succ, List.getElem?_cons_zero, Option.some.injEq] at h1; subst h0 h1; rfl
theorem EV' (s : Δ) (k : Nat) : bts (s.extract k s.size) = (bts s).drop k := by
 unfold bts; rw [ByteArray.data_extract, Array.toList_extract]; show List.take (s.data.toList.length - k) _ = _; rw [<- ld', List.take_length]
theorem hasP_v (l : Γ) (k : Nat) (h : Lib.hasPrefix (l.drop k) [92, 117] = true) : l[k]? = some 92 /\ l[k + 1]? = some 117 := by
 have h0 : (l.drop k)[0]? = l[k]? := by rw [List.getElem?_drop]; rfl
 have h1 : (l.drop k)[1]? = l[k + 1]? := by rw [List.getElem?_drop]
 unfold Lib.hasPrefix at h; rw [<- h0, <- h1]
 match l.drop k, h with
 | [], h => cases h
 | [a], h => simp [List.isPrefixOf] at h
 | a :: b :: r, h =>
  simp only [List.isPrefixOf, Bool.and_eq_true, beq_iff_eq, and_true] at h; rw [<- h.1, <- h.2]; exact ⟨rfl, rfl⟩
theorem nW' {t : Δ} {lo : Nat} (hW : Pu.LW2 W) (hs : s.size <= 1000000) (h1 : i < s.size) (e0 : (o' i == (s.size : Int)) = false)
  (hneg : decide (idxC (ByteArray.mk (Array.mk [34, 92, 47, 98, 102, 110, 114, 116])) ↑x.toNat >= o' 0) = false) (e117 : ((x.toNat : Int) != o' 117) = false)
  (hby2 : Wk (v' (.int .u8 (s.data.toList.getD i 0).toNat)) (v' (.int .u8 x.toNat))) (hh : hexA (bts s) (i + 1) = some n) (hn : n < 65536) (h5 : i + 1 + 4 <= s.size) (hb1 : ¬ (n < 55296 \/ 57343 < n)) (hl : GT' (bts s) n (i + 5) = none)
  (hb3 : n < 56448 \/ 56575 < n) (ht : s.extract (i + 5) s.size = t) (htb : bts t = (bts s).drop (i + 5)) (hA : ¬ 56575 < n) (hB : ¬ 56320 <= n) (ho2 : hexA (bts s) (i + 7) = some lo) (v : AV) (H' : LH) : TriU Θ (trb 233) W fEsc [.ptr 0 0, .any] (oU s i) v H' := by
 have hlen : (bts s).length = s.size := rfl; have h5' : i + 5 <= s.size := h5; have hlo := LD' ho2
 have hgeT : 56320 <= lo -> decide (o' lo >= o' 56320) = true := fun h => decide_eq_true (by simp only [Z0]; omega)
 have hgeF : lo < 56320 -> decide (o' lo >= o' 56320) = false := fun h => decide_eq_false (by simp only [Z0]; omega)
 cases hpr : hasP t (ByteArray.mk (Array.mk [92, 117])) with
 | false =>
  refine A9' [0, 999, 1101, 1102] rfl (CE' hW 233) (fun _ _ => noLU) fun F => Yj (dJ' W s t x i n lo 233 F) ⟨⟨?_, AG' (m := .nothing) rfl⟩⟩
  simp only [ch', h1, hh, Option.getD_some, Option.isSome_some, Option.getD_none, Option.isSome_none, ho2, bl', true_and, and_true]; and_intros; all_goals first | (with_reducible exact Ye) | (with_reducible exact rfl) | (with_reducible exact Ya) | (with_reducible exact Yb) | (with_reducible exact Yc) | (with_reducible exact A0' e0) | (with_reducible exact A0' hneg) | (with_reducible exact A0' e117) | (with_reducible exact hby2) | (unfold Few; omega) | exact wkI (by simp only [Z0]; omega) ω | exact A0' (ltN (decide_eq_true ω)) | exact A0' (ltN (decide_eq_false ω)) | exact A0' (gtN (decide_eq_true ω)) | exact A0' (gtN (decide_eq_false ω)) | (rw [ht]; exact Ya) | exact Yd | (with_reducible exact A0' hpr) | exact Kb1'
 | true =>
  by_cases hC : lo < 56320
  ·refine A9' [0, 999, 1101, 1102] rfl (CE' hW 233) (fun _ _ => noLU) fun F => Yj (dI' W s t x i n lo 233 F) ⟨⟨?_, AG' (m := .nothing) rfl⟩⟩
   simp only [ch', h1, hh, Option.getD_some, Option.isSome_some, Option.getD_none, Option.isSome_none, ho2, bl', true_and, and_true]; and_intros; all_goals first | (with_reducible exact Ye) | (with_reducible exact rfl) | (with_reducible exact Ya) | (with_reducible exact Yb) | (with_reducible exact Yc) | (with_reducible exact A0' e0) | (with_reducible exact A0' hneg) | (with_reducible exact A0' e117) | (with_reducible exact hby2) | (unfold Few; omega) | exact wkI (by simp only [Z0]; omega) ω | exact A0' (ltN (decide_eq_true ω)) | exact A0' (ltN (decide_eq_false ω)) | exact A0' (gtN (decide_eq_true ω)) | exact A0' (gtN (decide_eq_false ω)) | (rw [ht]; exact Ya) | exact Yd | (with_reducible exact A0' hpr) | (with_reducible exact A0' (hgeF hC)) | exact Kb1'
  by_cases hD : 57343 < lo
  ·refine A9' [0, 999, 1101, 1102] rfl (CE' hW 233) (fun _ _ => noLU) fun F => Yj (dH' W s t x i n lo 233 F) ⟨⟨?_, AG' (m := .nothing) rfl⟩⟩
   simp only [ch', h1, hh, Option.getD_some, Option.isSome_some, Option.getD_none, Option.isSome_none, ho2, bl', true_and, and_true]; and_intros; all_goals first | (with_reducible exact Ye) | (with_reducible exact rfl) | (with_reducible exact Ya) | (with_reducible exact Yb) | (with_reducible exact Yc) | (with_reducible exact A0' e0) | (with_reducible exact A0' hneg) | (with_reducible exact A0' e117) | (with_reducible exact hby2) | (unfold Few; omega) | exact wkI (by simp only [Z0]; omega) ω | exact A0' (ltN (decide_eq_true ω)) | exact A0' (ltN (decide_eq_false ω)) | exact A0' (gtN (decide_eq_true ω)) | exact A0' (gtN (decide_eq_false ω)) | (rw [ht]; exact Ya) | exact Yd | (with_reducible exact A0' hpr) | (with_reducible exact A0' (hgeT ω)) | exact A0' (leN (decide_eq_false ω)) | exact Kb1'
  exfalso
  have hp2 : (bts s)[i + 5]? = some 92 /\ (bts s)[i + 5 + 1]? = some 117 := by
   unfold hasP at hpr; rw [show t.data.toList = (bts s).drop (i + 5) from htb] at hpr; exact hasP_v _ _ hpr
  unfold GT' at hl
  rw [if_pos ⟨ω, hp2⟩, show hexA (bts s) (i + 5 + 2) = some lo from ho2, Option.bind_some, if_pos ⟨ω, by omega⟩] at hl
  cases hl
theorem EscErr (hW : Pu.LW2 W) (hs : s.size <= 1000000) (hi : i <= s.size) (h : escP (bts s) i = .err c) (v : AV) (H' : LH) : TriU Θ (trb c) W fEsc [.ptr 0 0, .any] (oU s i) v H' := by
 have hfs : Few s.size := by unfold Few; omega
 have hlen : (bts s).length = s.size := rfl; unfold escP at h
 by_cases h1 : i < s.size
 ·obtain ⟨x, hx⟩ : ∃ x, (bts s).getD i 0 = x := ⟨_, rfl⟩; have hg := G0' h1; rw [hx] at hg; rw [hg] at h; simp only at h; have hby := RT' hx; have hw := EU' hfs h1; have e0 : (o' i == (s.size : Int)) = false := eqN (beq_eq_false_iff_ne.2 ω); have hidx := RC' x
  have f1 : Few (i + 1) := by unfold Few; omega
  cases hwr : whr escF x with
  | some k => rw [hwr] at h; cases h
  | none =>
   rw [hwr] at h hidx; simp only at h hidx
   have hneg : decide (idxC (ByteArray.mk (Array.mk [34, 92, 47, 98, 102, 110, 114, 116])) ↑x.toNat >= o' 0) = false := by rw [hidx]; rfl
   cases hh : hexA (bts s) (i + 1) with
   | none =>
    rw [hh] at h; cases h
    by_cases h117 : x = 117
    ·have e117 : ((x.toNat : Int) != o' 117) = false := by rw [GC' x 117 117 rfl, h117]; rfl
     refine A9' [0, 999, 1101, 1102] rfl (CE' hW 232) (fun _ _ => noLU) fun F => Yj (UJ' W s x i 0 232 F) ⟨⟨?_, AG' (m := .nothing) rfl⟩⟩
     exact Cb6'
    ·have e117 : ((x.toNat : Int) != o' 117) = true := by rw [GC' x 117 117 rfl]; exact bne_iff_ne.2 h117
     refine A9' [0, 999, 1101, 1102] rfl (CE' hW 232) (fun _ _ => noLU) fun F => Yj (MM' W s x i 0 232 false F) ⟨⟨?_, AG' (m := .nothing) rfl⟩⟩
     exact Cb6'
   | some n =>
    rw [hh] at h; simp only at h
    by_cases h117 : x = 117
    ·rw [if_pos h117] at h
     have e117 : ((x.toNat : Int) != o' 117) = false := by rw [GC' x 117 117 rfl, h117]; rfl
     have hby2 : Wk (v' (.int .u8 (s.data.toList.getD i 0).toNat)) (v' (.int .u8 x.toNat)) := hby; have hn := LD' hh
     have h5 : i + 1 + 4 <= s.size := by
      unfold hexA at hh; split at hh
      ·rename_i h5; exact h5
      ·cases hh
     unfold escU at h
     by_cases hb1 : n < 55296 \/ 57343 < n
     ·rw [if_pos hb1] at h; cases h
     rw [if_neg hb1] at h
     cases hl : GT' (bts s) n (i + 5) with
     | some lo => rw [hl] at h; cases h
     | none =>
      rw [hl] at h; simp only at h
      by_cases hb3 : n < 56448 \/ 56575 < n
      case neg => rw [if_neg hb3] at h; cases h
      rw [if_pos hb3] at h
      injection h with h
      subst h; obtain ⟨t, ht⟩ : ∃ t, s.extract (i + 5) s.size = t := ⟨_, rfl⟩
      have htb : bts t = (bts s).drop (i + 5) := by rw [<- ht]; exact EV' s (i + 5)
      have h5' : i + 5 <= s.size := h5; obtain ⟨o2, ho2⟩ : ∃ o2, hexA (bts s) (i + 7) = o2 := ⟨_, rfl⟩
      by_cases hA : 56575 < n
      ·refine A9' [0, 999, 1101, 1102] rfl (CE' hW 233) (fun _ _ => noLU) fun F => Yj (dG' W s t x i n (o2.getD 0) 233 o2.isSome F) ⟨⟨?_, AG' (m := .nothing) rfl⟩⟩
       exact Cb7'
      by_cases hB : 56320 <= n
      ·refine A9' [0, 999, 1101, 1102] rfl (CE' hW 233) (fun _ _ => noLU) fun F => Yj (dL' W s t x i n (o2.getD 0) 233 o2.isSome F) ⟨⟨?_, AG' (m := .nothing) rfl⟩⟩
       exact Cb7'
      cases hh2 : o2 with
      | none =>
       rw [hh2] at ho2
       refine A9' [0, 999, 1101, 1102] rfl (CE' hW 233) (fun _ _ => noLU) fun F => Yj (dK' W s t x i n 0 233 F) ⟨⟨?_, AG' (m := .nothing) rfl⟩⟩
       exact Cb7'
      | some lo =>
       rw [hh2] at ho2; exact nW' hW hs h1 e0 hneg e117 hby2 hh hn h5 hb1 hl hb3 ht htb hA hB ho2 v H'
    ·rw [if_neg h117] at h; cases h
     have e117 : ((x.toNat : Int) != o' 117) = true := by rw [GC' x 117 117 rfl]; exact bne_iff_ne.2 h117
     refine A9' [0, 999, 1101, 1102] rfl (CE' hW 232) (fun _ _ => noLU) fun F => Yj (MM' W s x i n 232 true F) ⟨⟨?_, AG' (m := .nothing) rfl⟩⟩
     simp only [ch', h1, hh, Option.getD_some, Option.isSome_some, bl', true_and, and_true]; and_intros; all_goals exact Kb17'
 ·have hie : i = s.size := ω
  rw [List.getElem?_eq_none ω] at h; cases h; have e0 : (o' i == (s.size : Int)) = true := eqN (beq_iff_eq.2 hie)
  refine A9' [0, 999, 1101, 1102] rfl (CE' hW 3) (fun _ _ => noLU) fun F => Yj (R1' W s 0 i 3 F) ⟨⟨?_, AG' (m := .nothing) rfl⟩⟩
  simp only [ch', bl', true_and, and_true]; and_intros; all_goals first | exact A0' e0 | exact Kb1'
theorem EscOkz (hW : Pu.LW2 W) (hs : s.size <= 1000000) (hi : i <= s.size) (h : escP (bts s) i = .ok b j) : TriU Θ (trb c) W fEsc [.ptr 0 0, nilS] (oU s i) (sB 1001 (b).length) (oUo s j (b)) := by
 have hfs : Few s.size := by unfold Few; omega
 have hlen : (bts s).length = s.size := rfl; unfold escP at h
 by_cases h1 : i < s.size
 case neg => rw [List.getElem?_eq_none ω] at h; cases h
 obtain ⟨x, hx⟩ : ∃ x, (bts s).getD i 0 = x := ⟨_, rfl⟩; have hg := G0' h1; rw [hx] at hg; rw [hg] at h; simp only at h; have hby : Wk (v' (.int .u8 (s.data.toList.getD i 0).toNat)) (v' (.int .u8 x.toNat)) := RT' hx; have e0 : (o' i == (s.size : Int)) = false := eqN (beq_eq_false_iff_ne.2 ω); have hidx := RC' x
 cases hwr : whr escF x with
 | some k =>
  rw [hwr] at h hidx; simp only at hidx; cases h; have hk := fM' hwr; obtain ⟨y, hy⟩ : ∃ y, mX'.getD k 0 = y := ⟨_, rfl⟩; rw [hy]
  refine A9' [0, 999, 1101, 1102] rfl (CE' hW c) (fun _ _ => noLU) fun F => Yj (lM' W s x y i k c F) ⟨⟨?_, (ID' (L := [y]) rfl rfl).e⟩⟩
  have hyw : Wk (v' (.int .u8 (([34, 92, 47, 8, 12, 10, 13, 9] : Γ).getD k 0).toNat)) (byv y) := by rw [<- hy]; exact Ya
  simp only [ch', h1, hk, bl', true_and, and_true]; and_intros; all_goals first | (with_reducible exact A0' e0) | (with_reducible exact A0' hneg) | (with_reducible exact A0' e117) | (with_reducible exact hby) | (unfold Few; omega) | exact wkI (by simp only [Z0]; omega) ω | exact wkR ω | exact BA' hidx | exact hyw | exact Kb1'
 | none =>
  rw [hwr] at h hidx; simp only at h hidx
  have hneg : decide (idxC (ByteArray.mk (Array.mk [34, 92, 47, 98, 102, 110, 114, 116])) ↑x.toNat >= o' 0) = false := by rw [hidx]; rfl
  cases hh : hexA (bts s) (i + 1) with
  | none => rw [hh] at h; cases h
  | some n =>
   rw [hh] at h; simp only at h
   by_cases h117 : x = 117
   case neg => rw [if_neg h117] at h; cases h
   rw [if_pos h117] at h
   have e117 : ((x.toNat : Int) != o' 117) = false := by rw [GC' x 117 117 rfl, h117]; rfl
   have hn := LD' hh
   have h5 : i + 1 + 4 <= s.size := by
    unfold hexA at hh; split at hh
    ·rename_i h5; exact h5
    ·cases hh
   unfold escU at h
   by_cases hb1 : n < 55296
   ·rw [if_pos (.inl hb1)] at h; cases h
    refine A9' [0, 999, 1100, 1101] rfl (CE' hW c) (fun _ _ => noLU) fun F => Yj (Y4' W s x i n c F) ⟨⟨?_, (DG' rfl).e⟩⟩
    exact Cb8'
   by_cases hb2 : 57343 < n
   ·rw [if_pos (.inr hb2)] at h; cases h
    refine A9' [0, 999, 1100, 1101] rfl (CE' hW c) (fun _ _ => noLU) fun F => Yj (Y2' W s x i n c F) ⟨⟨?_, (DG' rfl).e⟩⟩
    exact Cb8'
   rw [if_neg ω] at h; obtain ⟨t, ht⟩ : ∃ t, s.extract (i + 5) s.size = t := ⟨_, rfl⟩
   have htb : bts t = (bts s).drop (i + 5) := by rw [<- ht]; exact EV' s (i + 5)
   cases hl : GT' (bts s) n (i + 5) with
   | some lo =>
    rw [hl] at h
    injection h with h6 h7
    subst h6 h7; unfold GT' at hl; split at hl
    case isFalse => cases hl
    rename_i hc
    cases hh2 : hexA (bts s) (i + 5 + 2) with
    | none => rw [hh2] at hl; cases hl
    | some m =>
     rw [hh2, Option.bind_some] at hl; split at hl
     case isFalse => cases hl
     rename_i hlo; cases hl; have hh2' : hexA (bts s) (i + 7) = some lo := hh2
     have hpr : hasP t (ByteArray.mk (Array.mk [92, 117])) = true := by
      unfold hasP; rw [show t.data.toList = (bts s).drop (i + 5) from htb]; exact gM' _ _ hc.2
     refine A9' [0, 999, 1100, 1101] rfl (CE' hW c) (fun _ _ => noLU) fun F => Yj (dE' W s t x i n lo (n - 55296) ((n - 55296) * 1024) (65536 + (n - 55296) * 1024) (65536 + (n - 55296) * 1024 + lo) (65536 + (n - 55296) * 1024 + (lo - 56320)) c F) ⟨⟨?_, (DG' rfl).e⟩⟩
     have hge : decide (o' lo >= o' 56320) = true := decide_eq_true (by simp only [Z0]; omega); have hle : decide (o' lo <= o' 57343) = true := leN (decide_eq_true ω); have h5' : i + 5 <= s.size := h5
     simp only [ch', h1, hh, hh2', Option.getD_some, Option.isSome_some, bl', true_and, and_true]; and_intros; all_goals first | (with_reducible exact A0' e0) | (with_reducible exact A0' hneg) | (with_reducible exact A0' e117) | (with_reducible exact hby) | (unfold Few; omega) | exact wkI (by simp only [Z0]; omega) ω | exact wkR ω | exact A0' (ltN (decide_eq_true ω)) | exact A0' (ltN (decide_eq_false ω)) | exact A0' (gtN (decide_eq_true ω)) | exact A0' (gtN (decide_eq_false ω)) | (unfold okR; omega) | (with_reducible exact A0' hpr) | (with_reducible exact A0' hge) | (with_reducible exact A0' hle) | (rw [ht]; exact Ya) | exact Yd | exact Kb1'
   | none =>
    rw [hl] at h; simp only at h
    by_cases hb3 : n < 56448 \/ 56575 < n
    ·rw [if_pos hb3] at h; cases h
    rw [if_neg hb3] at h; cases h; obtain ⟨o2, ho2⟩ : ∃ o2, hexA (bts s) (i + 7) = o2 := ⟨_, rfl⟩; obtain ⟨z, hz⟩ : ∃ z, (n % 256).toUInt8 = z := ⟨_, rfl⟩; rw [hz]
    refine A9' [0, 999, 1101, 1102] rfl (CE' hW c) (fun _ _ => noLU) fun F => Yj (dM' W s t x z i n (o2.getD 0) c o2.isSome F) ⟨⟨?_, (ID' (L := [z]) rfl rfl).e⟩⟩
    have hzw : IntKind.u8.wrap (o' n) = (z.toNat : Int) := by rw [u8wr, <- hz, toU8 ω]
    simp only [ch', h1, hh, ho2, Option.getD_some, Option.isSome_some, bl', true_and, and_true]; and_intros; all_goals first | (with_reducible exact A0' e0) | (with_reducible exact A0' hneg) | (with_reducible exact A0' e117) | (with_reducible exact hby) | (unfold Few; omega) | exact wkI (by simp only [Z0]; omega) ω | exact wkR ω | exact A0' (ltN (decide_eq_true ω)) | exact A0' (ltN (decide_eq_false ω)) | exact A0' (gtN (decide_eq_true ω)) | exact A0' (gtN (decide_eq_false ω)) | exact wk_k hzw | exact Kb1'
theorem EscOko (hW : Pu.LW2 W) (hs : s.size <= 1000000) (hi : i <= s.size) (P : Γ) (p : Nat) (hP : P.length = p) (hp : p <= 1000000) (h : escP (bts s) i = .ok b j) : TriU Θ (trb c) W fEsc [.ptr 0 0, sB 1001 p] (oUo s i P) (sB 1001 (P ++ b).length) (oUo s j (P ++ b)) := by
 have hfs : Few s.size := by unfold Few; omega
 have hlen : (bts s).length = s.size := rfl; unfold escP at h
 by_cases h1 : i < s.size
 case neg => rw [List.getElem?_eq_none ω] at h; cases h
 obtain ⟨x, hx⟩ : ∃ x, (bts s).getD i 0 = x := ⟨_, rfl⟩; have hg := G0' h1; rw [hx] at hg; rw [hg] at h; simp only at h; have hby : Wk (v' (.int .u8 (s.data.toList.getD i 0).toNat)) (v' (.int .u8 x.toNat)) := RT' hx; have e0 : (o' i == (s.size : Int)) = false := eqN (beq_eq_false_iff_ne.2 ω); have hidx := RC' x
 cases hwr : whr escF x with
 | some k =>
  rw [hwr] at h hidx; simp only at hidx; cases h; have hk := fM' hwr; obtain ⟨y, hy⟩ : ∃ y, mX'.getD k 0 = y := ⟨_, rfl⟩; rw [hy]; have hroom := EN' hP hp (k := 1) δ
  refine A9' [0, 999, 1101, 1102] rfl (IP' hW c P p) (fun _ _ => noLU) fun F => Yj (lN' W s P p x y i k c F) ⟨⟨?_, (ID' (L := P ++ [y]) (by rw [la', hP]; rfl) (DL' hP [y])).e⟩⟩
  have hyw : Wk (v' (.int .u8 (([34, 92, 47, 8, 12, 10, 13, 9] : Γ).getD k 0).toNat)) (byv y) := by rw [<- hy]; exact Ya
  simp only [ch', h1, hk, bl', true_and, and_true]; and_intros; all_goals first | (with_reducible exact A0' e0) | (with_reducible exact A0' hneg) | (with_reducible exact A0' e117) | (with_reducible exact hby) | (unfold Few; omega) | exact wkI (by simp only [Z0]; omega) ω | exact wkR ω | exact BA' hidx | exact hyw | exact KZ' hP | exact hroom.1 | exact hroom.2 | exact DK' hP | exact Kb1'
 | none =>
  rw [hwr] at h hidx; simp only at h hidx
  have hneg : decide (idxC (ByteArray.mk (Array.mk [34, 92, 47, 98, 102, 110, 114, 116])) ↑x.toNat >= o' 0) = false := by rw [hidx]; rfl
  cases hh : hexA (bts s) (i + 1) with
  | none => rw [hh] at h; cases h
  | some n =>
   rw [hh] at h; simp only at h
   by_cases h117 : x = 117
   case neg => rw [if_neg h117] at h; cases h
   rw [if_pos h117] at h
   have e117 : ((x.toNat : Int) != o' 117) = false := by rw [GC' x 117 117 rfl, h117]; rfl
   have hn := LD' hh
   have h5 : i + 1 + 4 <= s.size := by
    unfold hexA at hh; split at hh
    ·rename_i h5; exact h5
    ·cases hh
   unfold escU at h
   by_cases hb1 : n < 55296
   ·rw [if_pos (.inl hb1)] at h; cases h
    refine A9' [0, 999, 1100, 1101] rfl (IP' hW c P p) (fun _ _ => noLU) fun F => Yj (Y5' W s P p x i n c F) ⟨⟨?_, (DG' rfl).e⟩⟩
    simp only [ch', h1, hh, Option.getD_some, Option.isSome_some, AO', bl', true_and, and_true]; and_intros
    all_goals first
     | (with_reducible exact A0' e0)
     | (with_reducible exact A0' hneg)
     | (with_reducible exact A0' e117)
     | (with_reducible exact hby)
     | (unfold Few; omega)
     | exact wkI (by simp only [Z0]; omega) ω
     | exact wkR ω
     | exact A0' (ltN (decide_eq_true ω))
     | exact A0' (ltN (decide_eq_false ω))
     | exact A0' (gtN (decide_eq_true ω))
     | exact A0' (gtN (decide_eq_false ω))
     | (unfold okR; omega)
     | exact hP
     | exact hp
     | (refine VW.cons (Wk.of_eq ?_) (Yb); first
     | rfl
     | (rw [hP]))
     | exact A8'
     | exact ble' rfl
     | (subst_vars; exact ble' rfl) | (with_reducible first | exact Ye | exact Yf | exact A3' _ | assumption) | exact Yf | ((repeat (first | exact VW.nil | refine Yg ?_ | refine Yh ?_ | refine Yi ?_)); done)
   by_cases hb2 : 57343 < n
   ·rw [if_pos (.inr hb2)] at h; cases h
    refine A9' [0, 999, 1100, 1101] rfl (IP' hW c P p) (fun _ _ => noLU) fun F => Yj (Y3' W s P p x i n c F) ⟨⟨?_, (DG' rfl).e⟩⟩
    simp only [ch', h1, hh, Option.getD_some, Option.isSome_some, AO', bl', true_and, and_true]; and_intros
    all_goals first
     | (with_reducible exact A0' e0)
     | (with_reducible exact A0' hneg)
     | (with_reducible exact A0' e117)
     | (with_reducible exact hby)
     | (unfold Few; omega)
     | exact wkI (by simp only [Z0]; omega) ω
     | exact wkR ω
     | exact A0' (ltN (decide_eq_true ω))
     | exact A0' (ltN (decide_eq_false ω))
     | exact A0' (gtN (decide_eq_true ω))
     | exact A0' (gtN (decide_eq_false ω))
     | (unfold okR; omega)
     | exact hP
     | exact hp
     | (refine VW.cons (Wk.of_eq ?_) (Yb); first
     | rfl
     | (rw [hP]))
     | exact A8'
     | exact ble' rfl
     | (subst_vars; exact ble' rfl) | (with_reducible first | exact Ye | exact Yf | exact A3' _ | assumption) | exact Yf | ((repeat (first | exact VW.nil | refine Yg ?_ | refine Yh ?_ | refine Yi ?_)); done)
   rw [if_neg ω] at h; obtain ⟨t, ht⟩ : ∃ t, s.extract (i + 5) s.size = t := ⟨_, rfl⟩
   have htb : bts t = (bts s).drop (i + 5) := by rw [<- ht]; exact EV' s (i + 5)
   cases hl : GT' (bts s) n (i + 5) with
   | some lo =>
    rw [hl] at h
    injection h with h6 h7
    subst h6 h7; unfold GT' at hl; split at hl
    case isFalse => cases hl
    rename_i hc
    cases hh2 : hexA (bts s) (i + 5 + 2) with
    | none => rw [hh2] at hl; cases hl
    | some m =>
     rw [hh2, Option.bind_some] at hl; split at hl
     case isFalse => cases hl
     rename_i hlo; cases hl; have hh2' : hexA (bts s) (i + 7) = some lo := hh2
     have hpr : hasP t (ByteArray.mk (Array.mk [92, 117])) = true := by
      unfold hasP; rw [show t.data.toList = (bts s).drop (i + 5) from htb]; exact gM' _ _ hc.2
     refine A9' [0, 999, 1100, 1101] rfl (IP' hW c P p) (fun _ _ => noLU) fun F => Yj (dF' W s t P p x i n lo (n - 55296) ((n - 55296) * 1024) (65536 + (n - 55296) * 1024) (65536 + (n - 55296) * 1024 + lo) (65536 + (n - 55296) * 1024 + (lo - 56320)) c F) ⟨⟨?_, (DG' rfl).e⟩⟩
     have hge : decide (o' lo >= o' 56320) = true := decide_eq_true (by simp only [Z0]; omega); have hle : decide (o' lo <= o' 57343) = true := leN (decide_eq_true ω); have h5' : i + 5 <= s.size := h5; simp only [ch', h1, hh, hh2', Option.getD_some, Option.isSome_some, AO', bl', true_and, and_true]; and_intros
     all_goals first
      | (with_reducible exact A0' e0)
      | (with_reducible exact A0' hneg)
      | (with_reducible exact A0' e117)
      | (with_reducible exact hby)
      | (unfold Few; omega)
      | exact wkI (by simp only [Z0]; omega) ω
      | exact wkR ω
      | exact A0' (ltN (decide_eq_true ω))
      | exact A0' (ltN (decide_eq_false ω))
      | exact A0' (gtN (decide_eq_true ω))
      | exact A0' (gtN (decide_eq_false ω))
      | (unfold okR; omega)
      | exact hP
      | exact hp
      | (refine VW.cons (Wk.of_eq ?_) (Yb); first
      | rfl
      | (rw [hP]))
      | (with_reducible exact A0' hpr)
      | (with_reducible exact A0' hge)
      | (with_reducible exact A0' hle)
      | (rw [ht]; exact Ya)
      | exact Yd
      | exact A8'
      | exact ble' rfl
      | (subst_vars; exact ble' rfl) | (with_reducible first | exact Ye | exact Yf | exact A3' _ | assumption) | exact Yf | ((repeat (first | exact VW.nil | refine Yg ?_ | refine Yh ?_ | refine Yi ?_)); done)
   | none =>
    rw [hl] at h; simp only at h
    by_cases hb3 : n < 56448 \/ 56575 < n
    ·rw [if_pos hb3] at h; cases h
    rw [if_neg hb3] at h; cases h; obtain ⟨o2, ho2⟩ : ∃ o2, hexA (bts s) (i + 7) = o2 := ⟨_, rfl⟩; obtain ⟨z, hz⟩ : ∃ z, (n % 256).toUInt8 = z := ⟨_, rfl⟩; rw [hz]; have hroom := EN' hP hp (k := 1) δ
    refine A9' [0, 999, 1101, 1102] rfl (IP' hW c P p) (fun _ _ => noLU) fun F => Yj (dN' W s t P p x z i n (o2.getD 0) c o2.isSome F) ⟨⟨?_, (ID' (L := P ++ [z]) (by rw [la', hP]; rfl) (DL' hP [z])).e⟩⟩
    have hzw : IntKind.u8.wrap (o' n) = (z.toNat : Int) := by rw [u8wr, <- hz, toU8 ω]
    simp only [ch', h1, hh, ho2, Option.getD_some, Option.isSome_some, AO', bl', true_and, and_true]; and_intros; all_goals first | (with_reducible exact A0' e0) | (with_reducible exact A0' hneg) | (with_reducible exact A0' e117) | (with_reducible exact hby) | (unfold Few; omega) | exact wkI (by simp only [Z0]; omega) ω | exact wkR ω | exact A0' (ltN (decide_eq_true ω)) | exact A0' (ltN (decide_eq_false ω)) | exact A0' (gtN (decide_eq_true ω)) | exact A0' (gtN (decide_eq_false ω)) | exact wk_k hzw | exact KZ' hP | exact hroom.1 | exact hroom.2 | exact DK' hP | exact Kb1'
end
noncomputable section
abbrev fTxt : Nat := 43
structure RN extends RS where
 n : Nat
def gRN : List AV -> AP RN := fun args => match args with
 | [.ptr a _, .slice n _ _ _ _] => (gRS a).bind fun p => .ret ⟨p, n⟩
 | _ => .fail "reader"
def nmRN (p : RN) : Nat -> Nat := fun k => match Nat.beq k 0 with
 | true => p.o
 | false => match Nat.beq k 1001 with
  | true => p.n
  | false => k
def cEscE (c : Nat) : List AV -> Option (AP AV) := mkC gR2 (fun p => p.s.size <= 1000000 /\ p.i <= p.s.size /\ escP (bts p.s) p.i = .err c) nmR (fun _ => [.ptr 0 0, .any]) (fun p => oU p.s p.i) (fun p => .leaf .ret [nilS] (oX p.s p.i))
def cEscZ (b : Γ) (j : Nat) : List AV -> Option (AP AV) := mkC gR2 (fun p => p.s.size <= 1000000 /\ p.i <= p.s.size /\ escP (bts p.s) p.i = .ok b j) nmR (fun _ => [.ptr 0 0, nilS]) (fun p => oU p.s p.i) (fun p => .leaf .ret [sB 1001 b.length] (oUo p.s j b))
def cEscO (P : Γ) (p0 : Nat) (b : Γ) (j : Nat) : List AV -> Option (AP AV) := mkC gRN (fun p => p.s.size <= 1000000 /\ p.i <= p.s.size /\ P.length = p0 /\ p0 <= 1000000 /\ escP (bts p.s) p.i = .ok b j) nmRN (fun p => [.ptr 0 0, sB 1001 p0]) (fun p => oUo p.s p.i P) (fun p => .leaf .ret [sB 1001 (P ++ b).length] (oUo p.s j (P ++ b)))
def aT (o : AV) : List (Nat × AV) := [(0, .ptr 0 0), (3, o)]
def kT : List Nat := [0, 999, 1001, 1100, 1101, 1102]
def iT : List Nat := [0, 2, 3]
def hT (x : UInt8) (q34 q32 q92 : Bool) : List (FuncId × Nat × Nat × Hint) := [hf' fTxt 3 9, (fTxt, 5, 8, h0v (byv x)), (fTxt, 11, 1, hv (.lit q34)), (fTxt, 14, 1, hv (.lit q32)), (fTxt, 16, 1, hv (.lit q92))]
def hTC (t t2 : Δ) (r n e : Nat) (qa qb : Bool) : List (FuncId × Nat × Nat × Hint) := [(fTxt, 6, 8, h0v (sv t)), (fTxt, 6, 9, hv (.tuple [i32v r, iv (o' n)])), (fTxt, 7, 1, hv (.lit qa)), (fTxt, 7, 4, hv (.lit qb)), (fTxt, 9, 14, hv (iv (o' e))), (fTxt, 9, 15, h0v (sv t2)), (fTxt, 10, 5, hv (iv (o' e)))]
def conT (c : Nat) : CV' := [(fGv, cGv c), (fDec, cDec), (fEsc, cEscE c)]
def conTz (c : Nat) (b : Γ) (j : Nat) : CV' := [(fGv, cGv c), (fDec, cDec), (fEsc, cEscZ b j)]
def conTo (c : Nat) (P : Γ) (p : Nat) (b : Γ) (j : Nat) : CV' := [(fGv, cGv c), (fDec, cDec), (fEsc, cEscO P p b j)]
theorem bY' (W : World) (s : Δ) (i c : Nat) (F : HP) : B5' (trb c) (conT c) (AD' ([ht' fTxt 3 9])) [] W fTxt (AA' fTxt 3) (tms 0 108 (aT (nilS))) (oU s i) kT iT F = VT.leaf (AX.ret,[pt' 0 0,a',e'],108) [some (ce' [s' s,i' i] 114),some (AO.own Md.nothing noH),none,none,none,none] 1100 (h11' i s ((k95' i s).a ((k50' c).a (k49'.a k1')))) := χ
abbrev k122' (q0 : UInt8) : Cnd := (nt' q0 34)
abbrev h123' (q0 : Nat) (q1 : Δ) (q2 : UInt8) (z : Cnd) : Cnd := ((ee' (i' q0)).a ((ee' (s' q1)).a ((wb' (o' q0 == ↑q1.size) g').a ((ee' (s' q1)).a ((ee' (i' q0)).a (((p' (q0 < q1.size)).a (f' (Wk (v' (vi' u8' ↑(q1.data.toList.getD q0 0).toNat)) (v' (vi' u8' ↑q2.toNat))))).a z))))))
theorem bU' (W : World) (s : Δ) (x : UInt8) (m : Δ) (i c : Nat) (F : HP) : B5' (trb c) (conT c) (AD' (hT x true false false ++ [(fTxt, 12, 4, hv (iv (o' (i + 1))))])) [] W fTxt (AA' fTxt 3) (tms 0 108 (aT (nilS))) (oU s i) kT iT F = VT.leaf (AX.ret,[pt' 0 0,s' ByteArray.empty,e'],108) [some (ce' [s' s,i' (i + 1)] 114),some Ω,none,none,none,none] 1100 (h123' i s x ((k122' x).a (h2' i k1'))) := χ
theorem bZ' (W : World) (s : Δ) (P : Γ) (p : Nat) (i c : Nat) (F : HP) : B5' (trb c) (conT c) (AD' ([ht' fTxt 3 9])) [] W fTxt (AA' fTxt 3) (tms 0 108 (aT (sB 1001 p))) (oUo s i P) kT iT F = VT.leaf (AX.ret,[pt' 0 0,a',AV.slice 1001 0 p 1 (Cp.lo p)],108) [some (ce' [s' s,i' i] 114),some (AO.own Md.nothing noH),some (ce' (rowV encB P) 10),none,none,none] 1100 (h11' i s ((k95' i s).a ((k50' c).a (k49'.a k1')))) := χ
theorem bV' (W : World) (s : Δ) (P : Γ) (p : Nat) (x : UInt8) (m : Δ) (i c : Nat) (F : HP) : B5' (trb c) (conT c) (AD' (hT x true false false ++ [(fTxt, 12, 4, hv (iv (o' (i + 1)))), (fTxt, 13, 1, ht m)])) [] W fTxt (AA' fTxt 3) (tms 0 108 (aT (sB 1001 p))) (oUo s i P) kT iT F = VT.leaf (AX.ret,[pt' 0 0,s' m,AV.slice 1001 0 p 1 (Cp.lo p)],108) [some (ce' [s' s,i' (i + 1)] 114),some Ω,some (ce' (rowV encB P) 10),none,none,none] 1100 (h123' i s x ((k122' x).a (h2' i ((f' (0 + p <= (rowV encB P).length /\ List.take p (List.drop 0 (rowV encB P)) = vmap (List.map (fun b => vi' u8' ↑b.toNat) m.data.toList))).a k1')))) := χ
end
noncomputable section
abbrev k124' (q0 : UInt8) : Cnd := (wb' (decide (↑q0.toNat < o' 32)) j')
abbrev h125' (q0 : Nat) (q1 : Δ) (q2 : UInt8) (z : Cnd) : Cnd := ((ee' (i' q0)).a ((ee' (s' q1)).a ((wb' (o' q0 == ↑q1.size) g').a ((ee' (s' q1)).a ((ee' (i' q0)).a (((p' (q0 < q1.size)).a (f' (Wk (v' (vi' u8' ↑(q1.data.toList.getD q0 0).toNat)) (v' (vi' u8' ↑q2.toNat))))).a ((nb' q2 34).a z)))))))
theorem bW' (W : World) (s : Δ) (x : UInt8) (i c : Nat) (F : HP) : B5' (trb c) (conT c) (AD' (hT x false true false)) [] W fTxt (AA' fTxt 3) (tms 0 108 (aT (nilS))) (oU s i) kT iT F = VT.leaf (AX.ret,[pt' 0 0,a',e'],108) [some (ce' [s' s,i' i] 114),some (AO.own Md.nothing noH),none,none,none,none] 1100 (h125' i s x ((k124' x).a (YY' c k1'))) := χ
abbrev eK' (q0 : Nat) (q1 : Δ) (q2 : UInt8) (z : Cnd) : Cnd := ((ee' (i' q0)).a ((ee' (s' q1)).a ((wb' (o' q0 == ↑q1.size) g').a ((ee' (s' q1)).a ((ee' (i' q0)).a (((p' (q0 < q1.size)).a (f' (Wk (v' (vi' u8' ↑(q1.data.toList.getD q0 0).toNat)) (v' (vi' u8' ↑q2.toNat))))).a ((nb' q2 34).a ((wb' (decide (↑q2.toNat < o' 32)) g').a ((nt' q2 92).a ((ee' (i' q0)).a ((f' (Wk (z' (IntKind.i64.wrap (o' q0 + o' 1))) (i' (q0 + 1)))).a ((fe' true).a z))))))))))))
theorem XY' (W : World) (s : Δ) (x : UInt8) (i c : Nat) (F : HP) : B5' (trb c) (conT c) (AD' (hT x false false true ++ [(fTxt, 17, 4, hv (iv (o' (i + 1))))])) [] W fTxt (AA' fTxt 3) (tms 0 108 (aT (nilS))) (oU s i) kT iT F = VT.leaf (AX.ret,[pt' 0 0,a',e'],108) [some (ce' [s' s,i' (i + 1)] 114),some (AO.own Md.nothing noH),none,none,none,none] 1100 (eK' i s x (((p' (s.size <= 1000000 /\ i + 1 <= s.size /\ escP (bts s) (i + 1) = Rd.err c)).a ((p' (VW [pt' 0 0,e'] [pt' 0 0,a'])).a ((ow' (ce' [s' s,i' (i + 1)] 114)).a (f' (OW Ω Ω))))).a (k49'.a k1'))) := χ
theorem XW' (W : World) (s : Δ) (x : UInt8) (b : Γ) (j : Nat) (i c : Nat) (F : HP) : B5' (trb c) (conTz c b j) (AD' (hT x false false true ++ [(fTxt, 17, 4, hv (iv (o' (i + 1))))])) [] W fTxt (AA' fTxt 3) (tms 0 108 (aT (nilS))) (oU s i) kT iT F = VT.leaf (AX.normal,[pt' 0 0,a',AV.slice 1100 0 b.length 1 (Cp.lo b.length)],108) [some (ce' [s' s,i' j] 114),some Ω,none,some (ce' (AV.rens (sgN (nmR (RS.mk 0 (i + 1) s)) [1001] 1100) (rowV encB b)) 10),none,none] 1101 (eK' i s x (((p' (s.size <= 1000000 /\ i + 1 <= s.size /\ escP (bts s) (i + 1) = Rd.ok b j)).a ((vw' [pt' 0 0,e']).a ((ow' (ce' [s' s,i' (i + 1)] 114)).a (f' (OW Ω Ω))))).a k1')) := χ
theorem bX' (W : World) (s : Δ) (P : Γ) (p : Nat) (x : UInt8) (i c : Nat) (F : HP) : B5' (trb c) (conT c) (AD' (hT x false true false)) [] W fTxt (AA' fTxt 3) (tms 0 108 (aT (sB 1001 p))) (oUo s i P) kT iT F = VT.leaf (AX.ret,[pt' 0 0,a',AV.slice 1001 0 p 1 (Cp.lo p)],108) [some (ce' [s' s,i' i] 114),some (AO.own Md.nothing noH),some (ce' (rowV encB P) 10),none,none,none] 1100 (h125' i s x ((k124' x).a (YY' c k1'))) := χ
theorem XZ' (W : World) (s : Δ) (P : Γ) (p : Nat) (x : UInt8) (i c : Nat) (F : HP) : B5' (trb c) (conT c) (AD' (hT x false false true ++ [(fTxt, 17, 4, hv (iv (o' (i + 1))))])) [] W fTxt (AA' fTxt 3) (tms 0 108 (aT (sB 1001 p))) (oUo s i P) kT iT F = VT.leaf (AX.ret,[pt' 0 0,a',e'],108) [some (ce' [s' s,i' (i + 1)] 114),some (AO.own Md.nothing noH),some (ce' (rowV encB P) 10),none,none,none] 1100 (eK' i s x (((p' (s.size <= 1000000 /\ i + 1 <= s.size /\ escP (bts s) (i + 1) = Rd.err c)).a ((p' (VW [pt' 0 0,AV.slice 1001 0 p 1 (Cp.lo p)] [pt' 0 0,a'])).a ((ow' (ce' [s' s,i' (i + 1)] 114)).a (f' (OW Ω Ω))))).a (k49'.a k1'))) := χ
theorem XX' (W : World) (s : Δ) (P : Γ) (p : Nat) (x : UInt8) (b : Γ) (j : Nat) (i c : Nat) (F : HP) : B5' (trb c) (conTo c P p b j) (AD' (hT x false false true ++ [(fTxt, 17, 4, hv (iv (o' (i + 1))))])) [] W fTxt (AA' fTxt 3) (tms 0 108 (aT (sB 1001 p))) (oUo s i P) kT iT F = VT.leaf (AX.normal,[pt' 0 0,a',AV.slice 1100 0 (P ++ b).length 1 (Cp.lo (P ++ b).length)],108) [some (ce' [s' s,i' j] 114),some Ω,none,some (ce' (AV.rens (sgN (nmRN (RN.mk (RS.mk 0 (i + 1) s) 1001)) [1001] 1100) (rowV encB (P ++ b))) 10),none,none] 1101 (eK' i s x (((p' (s.size <= 1000000 /\ i + 1 <= s.size /\ P.length = p /\ p <= 1000000 /\ escP (bts s) (i + 1) = Rd.ok b j)).a ((vw' [pt' 0 0,AV.slice 1001 0 p 1 (Cp.lo p)]).a ((ow' (ce' [s' s,i' (i + 1)] 114)).a ((ow' Ω).a (f' (OW (ce' (rowV encB P) 10) (ce' (AV.rens (nmRN (RN.mk (RS.mk 0 (i + 1) s) 1001)) (rowV encB P)) 10))))))).a k1')) := χ
end
noncomputable section
abbrev k127' (q0 : Nat) : Cnd := (wb' (o' q0 == o' 1) j')
abbrev eJ' (q0 : Nat) (q1 : Δ) (q2 : UInt8) (q3 : Δ) (q4 q5 : Nat) (z : Cnd) : Cnd := ((ee' (i' q0)).a ((ee' (s' q1)).a ((wb' (o' q0 == ↑q1.size) g').a ((ee' (s' q1)).a ((ee' (i' q0)).a (((p' (q0 < q1.size)).a (f' (Wk (v' (vi' u8' ↑(q1.data.toList.getD q0 0).toNat)) (v' (vi' u8' ↑q2.toNat))))).a ((nb' q2 34).a ((wb' (decide (↑q2.toNat < o' 32)) g').a ((nb' q2 92).a ((ee' (s' q1)).a ((ee' (i' q0)).a (((p' (q0 <= q1.size)).a ((p' (q1.size <= q1.size)).a (f' (Wk (s' (q1.extract q0 q1.size)) (s' q3))))).a (((p' (0 < q3.size)).a (f' (Wk (AV.tuple [v' (vi' IntKind.i32 (o' (dR (bts q3)))),i' (dN (bts q3))]) (AV.tuple [v' (vi' IntKind.i32 (o' q4)),i' q5])))).a ((wb' (o' q4 == o' 65533) j').a z))))))))))))))
theorem d7' (W : World) (s : Δ) (x : UInt8) (t t2 : Δ) (r n e : Nat) (i c : Nat) (F : HP) : B5' (trb c) (conT c) (AD' (hT x false false false ++ hTC t t2 r n e true true)) [] W fTxt (AA' fTxt 3) (tms 0 108 (aT (nilS))) (oU s i) kT iT F = VT.leaf (AX.ret,[pt' 0 0,a',e'],108) [some (ce' [s' s,i' i] 114),some (AO.own Md.nothing noH),none,none,none,none] 1100 (eJ' i s x t r n ((k127' n).a (YY' c k1'))) := χ
abbrev eI' (q0 q1 q2 : Nat) (z : Cnd) : Cnd := ((ee' (i' q0)).a ((f' (Wk (z' (IntKind.i64.wrap (o' q0 + o' q1))) (i' q2))).a ((fe' true).a z)))
abbrev k130' (q0 : Δ) : Cnd := ((p' (q0.size.ble q0.size = true)).a ((p' ((vmap (List.map (fun b => vi' u8' ↑b.toNat) (List.take q0.size q0.data.toList))).all AV.one = true)).a ((p' (Nat.blt 0 q0.size = true)).a ((p' ((q0.size * 1).ble 140737488355328 = true)).a (f' (q0.size.ble 9223372036854775807 = true))))))
abbrev eH' (q0 : Δ) (q1 q2 q3 : Nat) (q4 : Δ) (z : Cnd) : Cnd := ((ee' (s' q0)).a ((ee' (i' q1)).a ((ee' (i' q1)).a ((f' (Wk (z' (IntKind.i64.wrap (o' q1 + o' q2))) (i' q3))).a (((p' (q1 <= q3)).a ((p' (q3 <= q0.size)).a (f' (Wk (s' (q0.extract q1 q3)) (s' q4))))).a z)))))
abbrev k132' (q0 : Nat) : Cnd := (wb' (o' q0 == o' 65533) g')
abbrev h133' (q0 : Nat) (q1 : Δ) (q2 : UInt8) (q3 : Δ) (q4 q5 : Nat) (z : Cnd) : Cnd := ((ee' (i' q0)).a ((ee' (s' q1)).a ((wb' (o' q0 == ↑q1.size) g').a ((ee' (s' q1)).a ((ee' (i' q0)).a (((p' (q0 < q1.size)).a (f' (Wk (v' (vi' u8' ↑(q1.data.toList.getD q0 0).toNat)) (v' (vi' u8' ↑q2.toNat))))).a ((nb' q2 34).a ((wb' (decide (↑q2.toNat < o' 32)) g').a ((nb' q2 92).a ((ee' (s' q1)).a ((ee' (i' q0)).a (((p' (q0 <= q1.size)).a ((p' (q1.size <= q1.size)).a (f' (Wk (s' (q1.extract q0 q1.size)) (s' q3))))).a (((p' (0 < q3.size)).a (f' (Wk (AV.tuple [v' (vi' IntKind.i32 (o' (dR (bts q3)))),i' (dN (bts q3))]) (AV.tuple [v' (vi' IntKind.i32 (o' q4)),i' q5])))).a z)))))))))))))
theorem d5' (W : World) (s : Δ) (x : UInt8) (t t2 : Δ) (r n e : Nat) (i c : Nat) (F : HP) : B5' (trb c) (conT c) (AD' (hT x false false false ++ hTC t t2 r n e false false)) [] W fTxt (AA' fTxt 3) (tms 0 108 (aT (nilS))) (oU s i) kT iT F = VT.leaf (AX.normal,[pt' 0 0,a',AV.slice 1100 0 t2.size 1 (Cp.lo t2.size)],108) [some (ce' [s' s,i' e] 114),some Ω,none,some (ce' (vmap (List.map (fun b => vi' u8' ↑b.toNat) (List.take t2.size t2.data.toList))) 10),none,none] 1101 (h133' i s x t r n ((k132' r).a (eH' s i n e t2 ((k130' t2).a (eI' i n e k1'))))) := χ
theorem d8' (W : World) (s : Δ) (P : Γ) (p : Nat) (x : UInt8) (t t2 : Δ) (r n e : Nat) (i c : Nat) (F : HP) : B5' (trb c) (conT c) (AD' (hT x false false false ++ hTC t t2 r n e true true)) [] W fTxt (AA' fTxt 3) (tms 0 108 (aT (sB 1001 p))) (oUo s i P) kT iT F = VT.leaf (AX.ret,[pt' 0 0,a',AV.slice 1001 0 p 1 (Cp.lo p)],108) [some (ce' [s' s,i' i] 114),some (AO.own Md.nothing noH),some (ce' (rowV encB P) 10),none,none,none] 1100 (eJ' i s x t r n ((k127' n).a (YY' c k1'))) := χ
abbrev k134' (q0 : Δ) (q1 : Nat) (q2 : Γ) : Cnd := ((p' (q0.size.ble q0.size = true)).a ((p' ((vmap (List.map (fun b => vi' u8' ↑b.toNat) (List.take q0.size q0.data.toList))).all AV.one = true)).a ((p' (Nat.blt 0 q0.size = true)).a ((p' ((0 + q1 * 1).ble (rowV encB q2).length = true)).a ((p' (((q1 + q0.size) * 1).ble 140737488355328 = true)).a ((p' ((q1 + q0.size).ble 9223372036854775807 = true)).a (f' ((List.take (q1 * 1) (List.drop 0 (rowV encB q2))).length.beq (q1 * 1) = true))))))))
theorem d6' (W : World) (s : Δ) (P : Γ) (p : Nat) (x : UInt8) (t t2 : Δ) (r n e : Nat) (i c : Nat) (F : HP) : B5' (trb c) (conT c) (AD' (hT x false false false ++ hTC t t2 r n e false false)) [] W fTxt (AA' fTxt 3) (tms 0 108 (aT (sB 1001 p))) (oUo s i P) kT iT F = VT.leaf (AX.normal,[pt' 0 0,a',AV.slice 1100 0 (p + t2.size) 1 (Cp.lo (p + t2.size))],108) [some (ce' [s' s,i' e] 114),some Ω,none,some (ce' (List.take (p * 1) (List.drop 0 (rowV encB P)) ++ vmap (List.map (fun b => vi' u8' ↑b.toNat) (List.take t2.size t2.data.toList))) 10),none,none] 1101 (h133' i s x t r n ((k132' r).a (eH' s i n e t2 ((k134' t2 p P).a (eI' i n e k1'))))) := χ
end
noncomputable section
abbrev k135' (q0 : Nat) : Cnd := (wb' (o' q0 == o' 1) g')
theorem d0' (W : World) (s : Δ) (x : UInt8) (t t2 : Δ) (r n e : Nat) (i c : Nat) (F : HP) : B5' (trb c) (conT c) (AD' (hT x false false false ++ hTC t t2 r n e true false)) [] W fTxt (AA' fTxt 3) (tms 0 108 (aT (nilS))) (oU s i) kT iT F = VT.leaf (AX.normal,[pt' 0 0,a',AV.slice 1100 0 t2.size 1 (Cp.lo t2.size)],108) [some (ce' [s' s,i' e] 114),some Ω,none,some (ce' (vmap (List.map (fun b => vi' u8' ↑b.toNat) (List.take t2.size t2.data.toList))) 10),none,none] 1101 (eJ' i s x t r n ((k135' n).a (eH' s i n e t2 ((k130' t2).a (eI' i n e k1'))))) := χ
theorem d3' (W : World) (s : Δ) (P : Γ) (p : Nat) (x : UInt8) (t t2 : Δ) (r n e : Nat) (i c : Nat) (F : HP) : B5' (trb c) (conT c) (AD' (hT x false false false ++ hTC t t2 r n e true false)) [] W fTxt (AA' fTxt 3) (tms 0 108 (aT (sB 1001 p))) (oUo s i P) kT iT F = VT.leaf (AX.normal,[pt' 0 0,a',AV.slice 1100 0 (p + t2.size) 1 (Cp.lo (p + t2.size))],108) [some (ce' [s' s,i' e] 114),some Ω,none,some (ce' (List.take (p * 1) (List.drop 0 (rowV encB P)) ++ vmap (List.map (fun b => vi' u8' ↑b.toNat) (List.take t2.size t2.data.toList))) 10),none,none] 1101 (eJ' i s x t r n ((k135' n).a (eH' s i n e t2 ((k134' t2 p P).a (eI' i n e k1'))))) := χ
end
structure LWT (W : World) : Prop where
 q : LWQ W
 p : Pu.LW2 W
theorem gRN_ro : ∀ args, RO (gRN args) := fun args => by
 unfold gRN; split
 ·exact aL' (TC' _) fun _ => RO.ret _
 ·exact RO.fail _
theorem fR' (n : Nat) : utf n ≠ [] := by
 unfold utf
 repeat' split
 all_goals exact fun h => by cases h
theorem LI' {l : Γ} {i : Nat} (h : escP l i = .ok b j) : b ≠ [] /\ i < j /\ j <= l.length /\ i + b.length <= j := by
 have hu : ∀ n, (utf n).length <= 4 := fun n => by
  unfold utf
  repeat' split
  all_goals simp
 unfold escP at h
 cases hg : l[i]? with
 | none => rw [hg] at h; cases h
 | some x =>
  rw [hg] at h; have hi := (List.getElem?_eq_some_iff.1 hg).1; simp only at h
  cases hw : whr escF x with
  | some k =>
   rw [hw] at h
   injection h with h1 h2
   subst h1 h2
   exact ⟨(fun h => by cases h), by omega, by omega, by simp only [List.length_cons, List.length_nil]; omega⟩
  | none =>
   rw [hw] at h; simp only at h
   cases hh : hexA l (i + 1) with
   | none => rw [hh] at h; cases h
   | some n =>
    rw [hh] at h; simp only at h
    have h5 : i + 5 <= l.length := by
     unfold hexA at hh; split at hh
     ·rename_i h5; omega
     ·cases hh
    split at h
    ·unfold escU at h; split at h
     ·injection h with h1 h2
      subst h1 h2
      exact ⟨fR' _, by omega, by omega, by have := hu n; omega⟩
     ·split at h
      ·rename_i lo hlo
       injection h with h1 h2
       subst h1 h2
       have h11 : i + 11 <= l.length := by
        unfold GT' at hlo; split at hlo
        ·cases hh2 : hexA l (i + 5 + 2) with
         | none => rw [hh2] at hlo; cases hlo
         | some m =>
          unfold hexA at hh2; split at hh2
          ·rename_i h11; omega
          ·cases hh2
        ·cases hlo
       exact ⟨fR' _, by omega, by omega, by have := hu (65536 + (n - 55296) * 1024 + (lo - 56320)); omega⟩
      ·split at h
       ·cases h
       ·injection h with h1 h2
        subst h1 h2
        exact ⟨(fun h => by cases h), by omega, by omega, by simp only [List.length_cons, List.length_nil]; omega⟩
    ·cases h
section
variable {W : World} {F : HP}
theorem fD' (hW : LWT W) (hF : AH' W F) (c : Nat) : C8' Θ (trb c) F fEsc (cEscE c) :=
 CL' hF MV' fun p hp => ⟨_, rfl, EscErr hW.p hp.1 hp.2.1 hp.2.2 _ _, rfl, rfl, ⟨rfl, Ye, Ye⟩, P5' _ _ _, ⟨Ye, Ye⟩, j2' _ _ _⟩
theorem XV' (K : Nat -> Bool) (s : Δ) (i : Nat) (P : Γ) : ∀ x ∈ oUo s i P, x.2.cl K := A2' ⟨Ye, Ye, Ye⟩ (A2' Ye (A2' (WQ' _ _) A4'))
theorem fB' (hW : LWT W) (hF : AH' W F) (c : Nat) (b : Γ) (j : Nat) : C8' Θ (trb c) F fEsc (cEscZ b j) :=
 CL' hF MV' fun p hp => ⟨_, rfl, EscOkz hW.p hp.1 hp.2.1 hp.2.2, rfl, rfl, ⟨rfl, Ye, Ye⟩, P5' _ _ _, ⟨rfl, Ye⟩, XV' _ _ _ _⟩
theorem fC' (hW : LWT W) (hF : AH' W F) (c : Nat) (P : Γ) (p0 : Nat) (b : Γ) (j : Nat) : C8' Θ (trb c) F fEsc (cEscO P p0 b j) :=
 CL' hF gRN_ro fun p hp => ⟨_, rfl, EscOko hW.p hp.1 hp.2.1 P p0 hp.2.2.1 hp.2.2.2.1 hp.2.2.2.2, rfl, rfl, ⟨rfl, rfl, Ye⟩, XV' _ _ _ _, ⟨rfl, Ye⟩, XV' _ _ _ _⟩
end
def outV : Γ -> AV
 | [] => nilS
 | a :: l => sB 1001 (a :: l).length
def oS (s : Δ) (i : Nat) : Γ -> LH
 | [] => oU s i
 | a :: l => oUo s i (a :: l)
theorem iW' (h : L ≠ []) : outV L = sB 1001 L.length := by
 cases L with
 | nil => exact absurd rfl h
 | cons => rfl
theorem oS_ne {s : Δ} {i : Nat} (h : L ≠ []) : oS s i L = oUo s i L := by
 cases L with
 | nil => exact absurd rfl h
 | cons => rfl
theorem TR' (l : Γ) (i : Nat) (hi : i < l.length) : i + EX' l i <= l.length := by
 rw [GX']; split
 ·omega
 ·have := Q0' (l.drop i) (by rw [ld']; omega); rw [ld'] at this; omega
theorem J0' {s : Δ} {cs : List AV} {μ : Nat} {σ : Type} {A : σ -> List (Nat × AV)} {H : σ -> LH} {m : σ -> Nat} (z : σ) (hA : A z = aT (outV L)) (hH : H z = oS s j L) (hμ : m z < μ) (hne : L ≠ []) (hk : k = L.length) (hcs : cs = rowV encB L) :
  D6' 108 kT iT [.ptr 0 0, .any, .slice 1100 0 k 1 (.lo k)] [some (rdO s j), some upO, none, some (.cells cs 10), none, none] fun W0 F N ys w => ∃ z, m z < μ /\ St W0 F N (H z) (tms 0 108 (A z)) ys w := by
 subst hk hcs
 refine ⟨aT (sB 1001 L.length), oUo s j L, [(1001, 1100)], rfl, ⟨χ, by kernel_rfl, ⟨Ya, Ya, Ye⟩, ⟨⟨_, rfl, Yc⟩, ⟨_, rfl, Yc⟩, ⟨_, rfl, QZ' rfl rfl⟩, Ye⟩⟩, fun W0 F N ys w h => ⟨z, hμ, ?_⟩⟩
 rw [hA, hH, iW' hne, oS_ne hne]; exact h
theorem C5' (l : Γ) (f i : Nat) (P : Γ) (hx : l[i]? = some x) : txtP l (f + 1) i P = if x = 34 then .ok P (i + 1) else if x.toNat < 32 then .err 233 else if x = 92 then (match escP l (i + 1) with
    | .err e => .err e
    | .ok b j => txtP l f j (P ++ b))
   else if EX' l i = 0 then .err 233 else txtP l f (i + EX' l i) (P ++ (l.drop i).take (EX' l i)) := by
 rw [txtP, hx]; rfl
theorem CN' {W : World} (hW : LWT W) (c : Nat) (F : HP) (hF : AH' W F) : ∀ x ∈ conT c, C8' Θ (trb c) F x.1 x.2 := A1' (AS' hF c) (A1' (JM' hW.q F hF).up (A1' (fD' hW hF c) noCU))
theorem f3' {W : World} (hW : LWT W) (c : Nat) (b : Γ) (j : Nat) (F : HP) (hF : AH' W F) : ∀ x ∈ conTz c b j, C8' Θ (trb c) F x.1 x.2 := A1' (AS' hF c) (A1' (JM' hW.q F hF).up (A1' (fB' hW hF c b j) noCU))
theorem f4' {W : World} (hW : LWT W) (c : Nat) (P : Γ) (p : Nat) (b : Γ) (j : Nat) (F : HP) (hF : AH' W F) : ∀ x ∈ conTo c P p b j, C8' Θ (trb c) F x.1 x.2 := A1' (AS' hF c) (A1' (JM' hW.q F hF).up (A1' (fC' hW hF c P p b j) noCU))
theorem iB' {P : Γ} {p : Nat} (hP : P.length = p) (hm : m = tB P) : List.take p (List.drop 0 (rowV encB P)) = vmap (List.map (fun b => vi' .u8 b.toNat) m.data.toList) := by
 subst hm; rw [E6', <- E1', List.drop_zero]; exact List.take_of_length_le (by rw [KY']; omega)
theorem T6' {a : Γ} (h : 0 < b.length) : a ++ b ≠ [] := fun e => by
 have := congrArg List.length e; rw [la'] at this; simp only [List.length_nil] at this; omega
theorem TV' (l : Γ) : (rowV encB l).all AV.one = true := by
 rw [E1', List.all_eq_true]; intro x hx; obtain ⟨v, hv, rfl⟩ := List.mem_map.1 (show x ∈ (l.map fun b : UInt8 => vi' .u8 b.toNat).map v' from hx); obtain ⟨b, _, rfl⟩ := List.mem_map.1 hv; rfl
theorem U8' {W : World} (hW : LWT W) {s : Δ} (hs : s.size <= 1000000) {c : Nat} {T : Rd Γ} (hc : ∀ e, T = .err e -> e = c) (hm : ∀ acc j, T = .ok acc j -> m = tB acc /\ HZ = oU s j) {i : Nat} (hi : i <= s.size) (hf : s.size < i + f) (hl : ([] : Γ).length <= i) (hT : txtP (bts s) f i [] = T) :
  ∃ (con : CV') (hints : AX') (lc : LcL), (∀ F, AH' W F -> ∀ x ∈ con, C8' Θ (trb c) F x.1 x.2) /\ (∀ F, AH' W F -> ∀ x ∈ lc, KE' Θ (trb c) F x.2.2.1 x.2.2.2) /\
   ∀ F, VAll (fun r os _ => r.2.2 = 108 /\ ((r.1 = .normal /\ D6' 108 kT iT r.2.1 os fun W0 F N ys w => ∃ z : {z : Nat × Nat × Γ // z.2.1 <= s.size /\ s.size < z.2.1 + z.1 /\ z.2.2.length <= z.2.1 /\ txtP (bts s) z.1 z.2.1 z.2.2 = T}, z.1.1 < f /\ St W0 F N (oS s z.1.2.1 z.1.2.2) (tms 0 108 (aT (outV z.1.2.2))) ys w) \/
    (r.1 = .ret /\ D6' 108 kT iT r.2.1 os fun W0 F N ys w => St W0 F N HZ (tms 0 108 [(2, sv m)]) ys w) \/ D6' 108 kT iT r.2.1 os fun _ _ _ _ _ => False))
    (B5' (trb c) con hints lc W fTxt (AA' fTxt 3) (tms 0 108 (aT (nilS))) (oU s i) kT iT F) := by
 have hfs : Few s.size := by unfold Few; omega
 have hlen : (bts s).length = s.size := rfl
 obtain ⟨f, rfl⟩ : ∃ g, f = g + 1 := ⟨f - 1, by omega⟩
 by_cases h1 : i < s.size
 case neg =>
  have hie : i = s.size := ω
  rw [txtP, List.getElem?_eq_none ω] at hT; have h3 : 3 = c := hc 3 hT.symm; have e0 : (o' i == (s.size : Int)) = true := eqN (beq_iff_eq.2 hie)
  refine ⟨_, _, [], CN' hW c, fun _ _ => noLU, fun F => Yj (bY' W s i c F) ⟨⟨?_, rfl, .inr (.inr (AV' (m := .nothing) rfl))⟩⟩⟩
  exact Cb9'
 obtain ⟨x, hx⟩ : ∃ x, (bts s).getD i 0 = x := ⟨_, rfl⟩; have hg := G0' h1; rw [hx] at hg; have hby : Wk (v' (.int .u8 (s.data.toList.getD i 0).toNat)) (v' (.int .u8 x.toNat)) := RT' hx; have e0 : (o' i == (s.size : Int)) = false := eqN (beq_eq_false_iff_ne.2 ω); rw [C5' _ _ _ _ hg] at hT
 by_cases h34 : x = 34
 ·rw [if_pos h34] at hT; obtain ⟨hm1, rfl⟩ := hm _ _ hT.symm
  have e34 : ((x.toNat : Int) == o' 34) = true := by rw [HF' x 34 34 rfl]; exact beq_iff_eq.2 h34
  refine ⟨_, _, [], CN' hW c, fun _ _ => noLU, fun F => Yj (bU' W s x m i c F) ⟨⟨?_, rfl, .inr (.inl ⟨rfl, [(2, sv m)], oU s (i + 1), [], rfl, ⟨χ, by kernel_rfl, ⟨by rw [hm1]; exact Ya, Ye⟩, ⟨⟨_, rfl, Yc⟩, ⟨_, rfl, Yc⟩, Ye⟩⟩, fun W0 F N ys w h => h⟩)⟩⟩⟩
  simp only [ch', h1, bl', true_and, and_true]; and_intros; all_goals first | (with_reducible exact A0' e0) | (with_reducible exact hby) | exact A0' e34 | exact wkI (by simp only [Z0]; omega) ω | exact Kb1'
 rw [if_neg h34] at hT
 have e34 : ((x.toNat : Int) == o' 34) = false := by rw [HF' x 34 34 rfl]; exact beq_eq_false_iff_ne.2 h34
 by_cases h32 : x.toNat < 32
 ·rw [if_pos h32] at hT; have h3 : 233 = c := hc 233 hT.symm; have e32 : decide ((x.toNat : Int) < o' 32) = true := decide_eq_true (by simp only [Z0]; omega)
  refine ⟨_, _, [], CN' hW c, fun _ _ => noLU, fun F => Yj (bW' W s x i c F) ⟨⟨?_, rfl, .inr (.inr (AV' (m := .nothing) rfl))⟩⟩⟩
  exact Cb10'
 rw [if_neg h32] at hT; have e32 : decide ((x.toNat : Int) < o' 32) = false := decide_eq_false (by simp only [Z0]; omega)
 by_cases h92 : x = 92
 ·rw [if_pos h92] at hT
  have e92 : ((x.toNat : Int) == o' 92) = true := by rw [HF' x 92 92 rfl]; exact beq_iff_eq.2 h92
  cases he : escP (bts s) (i + 1) with
  | err e =>
   rw [he] at hT; have h3 : e = c := hc e hT.symm; subst h3
   refine ⟨_, _, [], CN' hW e, fun _ _ => noLU, fun F => Yj (XY' W s x i e F) ⟨⟨?_, rfl, .inr (.inr (AV' (m := .nothing) rfl))⟩⟩⟩
   have hi1 : i + 1 <= s.size := h1; exact Cb11'
  | ok b j =>
   rw [he] at hT; simp only at hT; obtain ⟨hb0, hij, hjl, hb4⟩ := LI' he; have hi1 : i + 1 <= s.size := h1
   have hll : ([] ++ b).length <= j := by rw [la']; omega
   refine ⟨_, _, [], f3' hW c b j, fun _ _ => noLU, fun F => Yj (XW' W s x b j i c F) ⟨⟨?_, rfl, .inl ⟨rfl, J0' (L := [] ++ b) (s := s) (j := j) ⟨(f, j, [] ++ b), hjl, (show s.size < j + f by omega), hll, hT⟩ rfl rfl (Nat.lt_succ_self f) (by intro h; exact hb0 h) rfl (AO' _ _)⟩⟩⟩⟩
   simp only [ch', h1, AO', bl', true_and, and_true]; and_intros; all_goals first | (with_reducible exact A0' e0) | (with_reducible exact hby) | (with_reducible exact A0' e34) | (with_reducible exact A0' e32) | (with_reducible exact A0' e92) | exact wkI (by simp only [Z0]; omega) ω | exact Kb1'
 rw [if_neg h92] at hT
 have e92 : ((x.toNat : Int) == o' 92) = false := by rw [HF' x 92 92 rfl]; exact beq_eq_false_iff_ne.2 h92
 obtain ⟨t, ht⟩ : ∃ t, s.extract i s.size = t := ⟨_, rfl⟩
 have htb : bts t = (bts s).drop i := by rw [<- ht]; exact EV' s i
 have htp : 0 < t.size := by rw [<- B2', htb, ld']; omega
 have hch := GX' (bts s) i
 by_cases hq : errQ ((bts s).drop i) = true
 ·rw [if_pos hq] at hch; rw [if_pos hch] at hT; have h3 : 233 = c := hc 233 hT.symm; unfold errQ at hq; rw [Bool.and_eq_true, <- htb] at hq
  refine ⟨_, _, [], CN' hW c, fun _ _ => noLU, fun F => Yj (d7' W s x t t (dR (bts t)) (dN (bts t)) 0 i c F) ⟨⟨?_, rfl, .inr (.inr (AV' (m := .nothing) rfl))⟩⟩⟩
  exact Cb12'
 have hq' : errQ ((bts s).drop i) = false := by simpa using hq
 rw [hq', if_neg δ] at hch
 have hn0 : EX' (bts s) i ≠ 0 := by rw [hch]; have := IO' ((bts s).drop i); omega
 have hnl := TR' (bts s) i h1; rw [if_neg hn0] at hT; obtain ⟨n, hn⟩ : ∃ n, EX' (bts s) i = n := ⟨_, rfl⟩
 have hdn : dN (bts t) = n := by rw [htb, <- hch, hn]
 have hn4 : n <= 4 := by rw [<- hdn]; exact ZP' _
 rw [hn] at hT hn0 hnl; obtain ⟨t2, ht2⟩ : ∃ t2, s.extract i (i + n) = t2 := ⟨_, rfl⟩
 have ht2b : bts t2 = ((bts s).drop i).take n := by
  rw [<- ht2]; unfold bts; rw [ByteArray.data_extract, Array.toList_extract]; show List.take (i + n - i) _ = _
  rw [show i + n - i = n from ω]
 have ht2s : t2.size = n := by
  rw [<- B2', ht2b, List.length_take, ld']; omega
 rw [<- ht2b] at hT
 have hll : ([] ++ bts t2).length <= i + n := by rw [la', B2']; omega
 have hcs : vmap (List.map (fun b : UInt8 => vi' .u8 b.toNat) (List.take t2.size t2.data.toList)) = rowV encB (bts t2) := by
  rw [E1']; unfold bts; rw [show t2.size = t2.data.toList.length from rfl, List.take_length]
 have ht20 : 0 < t2.size := ω
 have hnl2 : i + n <= s.size := hnl; have hall : (rowV encB (bts t2)).all AV.one = true := TV' _; unfold errQ at hq'; rw [<- htb, hdn] at hq'
 cases hr : (o' (dR (bts t)) == o' 65533) with
 | false =>
  refine ⟨_, _, [], CN' hW c, fun _ _ => noLU, fun F => Yj (d5' W s x t t2 (dR (bts t)) n (i + n) i c F) ⟨⟨?_, rfl, .inl ⟨rfl, J0' (L := [] ++ bts t2) (s := s) (j := i + n) ⟨(f, i + n, [] ++ bts t2), hnl, (show s.size < i + n + f by omega), hll, hT⟩ rfl rfl (Nat.lt_succ_self f) (T6' (by rw [B2']; omega)) rfl hcs⟩⟩⟩⟩
  simp only [ch', h1, htp, hi, hnl2, hdn, hcs, hall, ht20, bl', true_and, and_true]; and_intros; all_goals first | (with_reducible exact A0' e0) | (with_reducible exact hby) | (with_reducible exact A0' e34) | (with_reducible exact A0' e32) | (with_reducible exact A0' e92) | (with_reducible exact A0' hr) | exact Kb19'
 | true =>
  rw [hr, Bool.true_and] at hq'
  refine ⟨_, _, [], CN' hW c, fun _ _ => noLU, fun F => Yj (d0' W s x t t2 (dR (bts t)) n (i + n) i c F) ⟨⟨?_, rfl, .inl ⟨rfl, J0' (L := [] ++ bts t2) (s := s) (j := i + n) ⟨(f, i + n, [] ++ bts t2), hnl, (show s.size < i + n + f by omega), hll, hT⟩ rfl rfl (Nat.lt_succ_self f) (T6' (by rw [B2']; omega)) rfl hcs⟩⟩⟩⟩
  simp only [ch', h1, htp, hi, hnl2, hdn, hcs, hall, ht20, bl', true_and, and_true]; and_intros; all_goals first | (with_reducible exact A0' e0) | (with_reducible exact hby) | (with_reducible exact A0' e34) | (with_reducible exact A0' e32) | (with_reducible exact A0' e92) | (with_reducible exact A0' hr) | (with_reducible exact A0' hq') | exact Kb19'
theorem U9' {W : World} (hW : LWT W) {s : Δ} (hs : s.size <= 1000000) {c : Nat} {T : Rd Γ} (hc : ∀ e, T = .err e -> e = c) (hm : ∀ acc j, T = .ok acc j -> m = tB acc /\ HZ = oU s j) {i : Nat} (P : Γ) (p : Nat) (hP : P.length = p) (hne : P ≠ []) (hi : i <= s.size) (hf : s.size < i + f) (hl : (P : Γ).length <= i) (hT : txtP (bts s) f i P = T) :
  ∃ (con : CV') (hints : AX') (lc : LcL), (∀ F, AH' W F -> ∀ x ∈ con, C8' Θ (trb c) F x.1 x.2) /\ (∀ F, AH' W F -> ∀ x ∈ lc, KE' Θ (trb c) F x.2.2.1 x.2.2.2) /\
   ∀ F, VAll (fun r os _ => r.2.2 = 108 /\ ((r.1 = .normal /\ D6' 108 kT iT r.2.1 os fun W0 F N ys w => ∃ z : {z : Nat × Nat × Γ // z.2.1 <= s.size /\ s.size < z.2.1 + z.1 /\ z.2.2.length <= z.2.1 /\ txtP (bts s) z.1 z.2.1 z.2.2 = T}, z.1.1 < f /\ St W0 F N (oS s z.1.2.1 z.1.2.2) (tms 0 108 (aT (outV z.1.2.2))) ys w) \/
    (r.1 = .ret /\ D6' 108 kT iT r.2.1 os fun W0 F N ys w => St W0 F N HZ (tms 0 108 [(2, sv m)]) ys w) \/ D6' 108 kT iT r.2.1 os fun _ _ _ _ _ => False))
    (B5' (trb c) con hints lc W fTxt (AA' fTxt 3) (tms 0 108 (aT (sB 1001 p))) (oUo s i P) kT iT F) := by
 have hfs : Few s.size := by unfold Few; omega
 have hlen : (bts s).length = s.size := rfl
 obtain ⟨f, rfl⟩ : ∃ g, f = g + 1 := ⟨f - 1, by omega⟩
 have hp : p <= 1000000 := ω
 by_cases h1 : i < s.size
 case neg =>
  have hie : i = s.size := ω
  rw [txtP, List.getElem?_eq_none ω] at hT; have h3 : 3 = c := hc 3 hT.symm; have e0 : (o' i == (s.size : Int)) = true := eqN (beq_iff_eq.2 hie)
  refine ⟨_, _, [], CN' hW c, fun _ _ => noLU, fun F => Yj (bZ' W s P p i c F) ⟨⟨?_, rfl, .inr (.inr (AV' (m := .nothing) rfl))⟩⟩⟩
  exact Cb9'
 obtain ⟨x, hx⟩ : ∃ x, (bts s).getD i 0 = x := ⟨_, rfl⟩; have hg := G0' h1; rw [hx] at hg; have hby : Wk (v' (.int .u8 (s.data.toList.getD i 0).toNat)) (v' (.int .u8 x.toNat)) := RT' hx; have e0 : (o' i == (s.size : Int)) = false := eqN (beq_eq_false_iff_ne.2 ω); rw [C5' _ _ _ _ hg] at hT
 by_cases h34 : x = 34
 ·rw [if_pos h34] at hT; obtain ⟨hm1, rfl⟩ := hm _ _ hT.symm
  have e34 : ((x.toNat : Int) == o' 34) = true := by rw [HF' x 34 34 rfl]; exact beq_iff_eq.2 h34
  refine ⟨_, _, [], CN' hW c, fun _ _ => noLU, fun F => Yj (bV' W s P p x m i c F) ⟨⟨?_, rfl, .inr (.inl ⟨rfl, [(2, sv m)], oU s (i + 1), [], rfl, ⟨χ, by kernel_rfl, ⟨Ya, Ye⟩, ⟨⟨_, rfl, Yc⟩, ⟨_, rfl, Yc⟩, Ye⟩⟩, fun W0 F N ys w h => h⟩)⟩⟩⟩
  simp only [ch', h1, bl', true_and, and_true]; and_intros; all_goals first | (with_reducible exact A0' e0) | (with_reducible exact hby) | exact A0' e34 | exact wkI (by simp only [Z0]; omega) ω | exact iB' hP hm1 | (rw [KY']; omega) | exact Kb1'
 rw [if_neg h34] at hT
 have e34 : ((x.toNat : Int) == o' 34) = false := by rw [HF' x 34 34 rfl]; exact beq_eq_false_iff_ne.2 h34
 by_cases h32 : x.toNat < 32
 ·rw [if_pos h32] at hT; have h3 : 233 = c := hc 233 hT.symm; have e32 : decide ((x.toNat : Int) < o' 32) = true := decide_eq_true (by simp only [Z0]; omega)
  refine ⟨_, _, [], CN' hW c, fun _ _ => noLU, fun F => Yj (bX' W s P p x i c F) ⟨⟨?_, rfl, .inr (.inr (AV' (m := .nothing) rfl))⟩⟩⟩
  exact Cb10'
 rw [if_neg h32] at hT; have e32 : decide ((x.toNat : Int) < o' 32) = false := decide_eq_false (by simp only [Z0]; omega)
 by_cases h92 : x = 92
 ·rw [if_pos h92] at hT
  have e92 : ((x.toNat : Int) == o' 92) = true := by rw [HF' x 92 92 rfl]; exact beq_iff_eq.2 h92
  cases he : escP (bts s) (i + 1) with
  | err e =>
   rw [he] at hT; have h3 : e = c := hc e hT.symm; subst h3
   refine ⟨_, _, [], CN' hW e, fun _ _ => noLU, fun F => Yj (XZ' W s P p x i e F) ⟨⟨?_, rfl, .inr (.inr (AV' (m := .nothing) rfl))⟩⟩⟩
   have hi1 : i + 1 <= s.size := h1; exact Cb11'
  | ok b j =>
   rw [he] at hT; simp only at hT; obtain ⟨hb0, hij, hjl, hb4⟩ := LI' he; have hi1 : i + 1 <= s.size := h1
   have hll : (P ++ b).length <= j := by rw [la']; omega
   refine ⟨_, _, [], f4' hW c P p b j, fun _ _ => noLU, fun F => Yj (XX' W s P p x b j i c F) ⟨⟨?_, rfl, .inl ⟨rfl, J0' (L := P ++ b) (s := s) (j := j) ⟨(f, j, P ++ b), hjl, (show s.size < j + f by omega), hll, hT⟩ rfl rfl (Nat.lt_succ_self f) (by intro h; exact hb0 (List.append_eq_nil_iff.1 h).2) rfl (AO' _ _)⟩⟩⟩⟩
   simp only [ch', h1, AO', bl', true_and, and_true]; and_intros; all_goals first | (with_reducible exact A0' e0) | (with_reducible exact hby) | (with_reducible exact A0' e34) | (with_reducible exact A0' e32) | (with_reducible exact A0' e92) | exact wkI (by simp only [Z0]; omega) ω | exact hP | exact hp | exact Yb | exact Kb1'
 rw [if_neg h92] at hT
 have e92 : ((x.toNat : Int) == o' 92) = false := by rw [HF' x 92 92 rfl]; exact beq_eq_false_iff_ne.2 h92
 obtain ⟨t, ht⟩ : ∃ t, s.extract i s.size = t := ⟨_, rfl⟩
 have htb : bts t = (bts s).drop i := by rw [<- ht]; exact EV' s i
 have htp : 0 < t.size := by rw [<- B2', htb, ld']; omega
 have hch := GX' (bts s) i
 by_cases hq : errQ ((bts s).drop i) = true
 ·rw [if_pos hq] at hch; rw [if_pos hch] at hT; have h3 : 233 = c := hc 233 hT.symm; unfold errQ at hq; rw [Bool.and_eq_true, <- htb] at hq
  refine ⟨_, _, [], CN' hW c, fun _ _ => noLU, fun F => Yj (d8' W s P p x t t (dR (bts t)) (dN (bts t)) 0 i c F) ⟨⟨?_, rfl, .inr (.inr (AV' (m := .nothing) rfl))⟩⟩⟩
  exact Cb12'
 have hq' : errQ ((bts s).drop i) = false := by simpa using hq
 rw [hq', if_neg δ] at hch
 have hn0 : EX' (bts s) i ≠ 0 := by rw [hch]; have := IO' ((bts s).drop i); omega
 have hnl := TR' (bts s) i h1; rw [if_neg hn0] at hT; obtain ⟨n, hn⟩ : ∃ n, EX' (bts s) i = n := ⟨_, rfl⟩
 have hdn : dN (bts t) = n := by rw [htb, <- hch, hn]
 have hn4 : n <= 4 := by rw [<- hdn]; exact ZP' _
 rw [hn] at hT hn0 hnl; obtain ⟨t2, ht2⟩ : ∃ t2, s.extract i (i + n) = t2 := ⟨_, rfl⟩
 have ht2b : bts t2 = ((bts s).drop i).take n := by
  rw [<- ht2]; unfold bts; rw [ByteArray.data_extract, Array.toList_extract]; show List.take (i + n - i) _ = _
  rw [show i + n - i = n from ω]
 have ht2s : t2.size = n := by
  rw [<- B2', ht2b, List.length_take, ld']; omega
 rw [<- ht2b] at hT
 have hll : (P ++ bts t2).length <= i + n := by rw [la', B2']; omega
 have hcs : vmap (List.map (fun b : UInt8 => vi' .u8 b.toNat) (List.take t2.size t2.data.toList)) = rowV encB (bts t2) := by
  rw [E1']; unfold bts; rw [show t2.size = t2.data.toList.length from rfl, List.take_length]
 have hroom := EN' hP hp (k := t2.size) ω
 have ht20 : 0 < t2.size := ω
 have hnl2 : i + n <= s.size := hnl; have hall : (rowV encB (bts t2)).all AV.one = true := TV' _; unfold errQ at hq'; rw [<- htb, hdn] at hq'
 cases hr : (o' (dR (bts t)) == o' 65533) with
 | false =>
  refine ⟨_, _, [], CN' hW c, fun _ _ => noLU, fun F => Yj (d6' W s P p x t t2 (dR (bts t)) n (i + n) i c F) ⟨⟨?_, rfl, .inl ⟨rfl, J0' (L := P ++ bts t2) (s := s) (j := i + n) ⟨(f, i + n, P ++ bts t2), hnl, (show s.size < i + n + f by omega), hll, hT⟩ rfl rfl (Nat.lt_succ_self f) (T6' (by rw [B2']; omega)) (by rw [la', hP, B2']) (by rw [hcs]; exact DL' hP _)⟩⟩⟩⟩
  simp only [ch', h1, htp, hi, hnl2, hdn, hcs, hall, ht20, bl', true_and, and_true]; and_intros; all_goals first | (with_reducible exact A0' e0) | (with_reducible exact hby) | (with_reducible exact A0' e34) | (with_reducible exact A0' e32) | (with_reducible exact A0' e92) | (with_reducible exact A0' hr) | exact Kb15'
 | true =>
  rw [hr, Bool.true_and] at hq'
  refine ⟨_, _, [], CN' hW c, fun _ _ => noLU, fun F => Yj (d3' W s P p x t t2 (dR (bts t)) n (i + n) i c F) ⟨⟨?_, rfl, .inl ⟨rfl, J0' (L := P ++ bts t2) (s := s) (j := i + n) ⟨(f, i + n, P ++ bts t2), hnl, (show s.size < i + n + f by omega), hll, hT⟩ rfl rfl (Nat.lt_succ_self f) (T6' (by rw [B2']; omega)) (by rw [la', hP, B2']) (by rw [hcs]; exact DL' hP _)⟩⟩⟩⟩
  simp only [ch', h1, htp, hi, hnl2, hdn, hcs, hall, ht20, bl', true_and, and_true]; and_intros; all_goals first | (with_reducible exact A0' e0) | (with_reducible exact hby) | (with_reducible exact A0' e34) | (with_reducible exact A0' e32) | (with_reducible exact A0' e92) | (with_reducible exact A0' hr) | (with_reducible exact A0' hq') | exact Kb15'
theorem iD' {W : World} (hW : LWT W) {s : Δ} (hs : s.size <= 1000000) {c : Nat} {T : Rd Γ} (hc : ∀ e, T = .err e -> e = c) (hm : ∀ acc j, T = .ok acc j -> m = tB acc /\ HZ = oU s j) {i : Nat} (hi : i <= s.size) (hf : s.size < i + f) (hT : txtP (bts s) f i [] = T) : OG' Θ (trb c) W (AA' fTxt 3) (tms 0 108 (aT nilS)) (oU s i) .ret (tms 0 108 [(2, sv m)]) HZ := by
 refine UM' (R := trb c) (W := W) (g := fTxt) (b := AA' fTxt 3) (σ := {z : Nat × Nat × Γ // z.2.1 <= s.size /\ s.size < z.2.1 + z.1 /\ z.2.2.length <= z.2.1 /\ txtP (bts s) z.1 z.2.1 z.2.2 = T}) 108 (fun z => aT (outV z.1.2.2)) (fun z => oS s z.1.2.1 z.1.2.2) .ret [(2, sv m)] HZ (fun z => z.1.1) kT iT (by intro h; cases h) (fun z => ?_) ?_ ⟨(f, i, []), hi, hf, Nat.zero_le _, hT⟩
 ·obtain ⟨⟨f, i, P⟩, _⟩ := z
  cases P <;> rfl
 ·rintro ⟨⟨f, i, P⟩, h1, h2, h3, h4⟩
  cases P with
  | nil => exact U8' hW hs hc hm h1 h2 h3 h4
  | cons a l => exact U9' hW hs hc hm (a :: l) (a :: l).length rfl (fun h => by cases h) h1 h2 h3 h4
def lTx (s : Δ) (i : Nat) (m : Δ) (HZ : LH) : List AV -> AP (AX × List AV) := mkL (fun _ => .ret ()) (fun _ => True) (fun _ k => k) (fun _ => tms 0 108 (aT nilS)) (fun _ => oU s i) (fun _ => .leaf .ret (tms 0 108 [(2, sv m)]) HZ)
noncomputable section
abbrev y9' : Δ := ByteArray.mk (Array.mk [])
abbrev k136' : Cnd := (ow' Ω)
abbrev k137' (q0 : Δ) (q1 : Nat) : Cnd := (ow' (ce' [s' q0,i' (q1 + 1)] 114))
abbrev k138' (q0 : Nat) : Cnd := (p' (VW (pt' 0 0::u'::s' y9'::e'::u'::u'::u'::pt' 0 0::pt' 0 0::pt' 0 1::i' q0::i' (q0 + 1)::pt' 0 0::pt' 0 1::ru16 (ru16 (ru16 (ru16 (ru16 (ru8 (ru4 (u'::u'::[])))))))) (pt' 0 0::a'::a'::e'::ra16 (ra16 (ra16 (ra16 (ra16 (ra16 (ra8 ([]))))))))))
theorem bT' (W : World) (s m : Δ) (i c : Nat) (F : HP) : uRun (trb c) [] (AD' [(fTxt, 2, 4, hv (iv (o' (i + 1))))]) [(fTxt, 3, AA' fTxt 3, lTx s (i + 1) m (oX s (i + 1)))] W fTxt [.ptr 0 0] (oU s i) [0, 999] F = VT.leaf (s' m) [some (ce' [s' s,i' (i + 1)] 114),some (AO.own Md.nothing noH)] 1100 (h2' i ((p' ((fTxt,3,AA' fTxt 3,lTx s (i + 1) m (oX s (i + 1))).snd.snd.fst = (fTxt,3,AA' fTxt 3,lTx s (i + 1) m (oX s (i + 1))).snd.snd.fst)).a (k13'.a ((k138' i).a ((k137' s i).a (k136'.a k1')))))) := χ
theorem bS' (W : World) (s m : Δ) (i j c : Nat) (F : HP) : uRun (trb c) [] (AD' [(fTxt, 2, 4, hv (iv (o' (i + 1))))]) [(fTxt, 3, AA' fTxt 3, lTx s (i + 1) m (oU s j))] W fTxt [.ptr 0 0] (oU s i) [0, 999] F = VT.leaf (s' m) [some (ce' [s' s,i' j] 114),some Ω] 1100 (h2' i ((p' ((fTxt,3,AA' fTxt 3,lTx s (i + 1) m (oU s j)).snd.snd.fst = (fTxt,3,AA' fTxt 3,lTx s (i + 1) m (oU s j)).snd.snd.fst)).a (k13'.a ((k138' i).a ((k137' s i).a (k136'.a k1')))))) := χ
end
theorem gI' {W : World} (hW : LWT W) {s : Δ} (hs : s.size <= 1000000) {c : Nat} {T : Rd Γ} (hc : ∀ e, T = .err e -> e = c) (hm : ∀ acc j, T = .ok acc j -> m = tB acc /\ HZ = oU s j) {i : Nat} (hi : i <= s.size) (hf : s.size < i + f) (hT : txtP (bts s) f i [] = T) (hZ : AE' 1100 HZ = true) (hcl : ∀ x ∈ HZ, x.2.cl (kR (oU s i) HZ)) (F : HP) (hF : AH' W F) : KE' Θ (trb c) F (AA' fTxt 3) (lTx s i m HZ) :=
 L4' hF (fun _ => RO.ret _) (fun _ _ => iD' hW hs hc hm hi hf hT) fun _ _ => by
  simp only [RT.pick]; exact C4' rfl hZ (A2' rfl (A2' Ye A4')) (P5' _ _ _) (A2' Ye A4') hcl
theorem hO' {W : World} (hW : LWT W) {s : Δ} (hs : s.size <= 1000000) {c i : Nat} (hi : i < s.size) (h : txtA (bts s) (i + 1) = .err c) (v : AV) (H' : LH) : TriU Θ (trb c) W fTxt [.ptr 0 0] (oU s i) v H' := by
 have hfs : Few s.size := by unfold Few; omega
 have hlen : (bts s).length = s.size := rfl; unfold txtA at h
 have hT : txtP (bts s) ((bts s).length + 1) (i + 1) [] = .err c := by
  cases hx : txtP (bts s) ((bts s).length + 1) (i + 1) [] with
  | err e => rw [hx] at h; injection h with h; rw [h]
  | ok a j => rw [hx] at h; cases h
 have hw := EU' hfs hi
 refine A9' [0, 999] rfl (fun _ _ => noCU) (fun F hF => MJ' (gI' hW hs (m := nil0) (HZ := oX s (i + 1)) (fun e he => by cases he; rfl) (fun a j he => by cases he) ω ω hT rfl (j2' _ _ _) F hF)) fun F => Yj (bT' W s nil0 i c F) ⟨⟨?_, AG' (m := .nothing) rfl⟩⟩
 exact Cb13'
theorem TxtOk {W : World} (hW : LWT W) {s : Δ} (hs : s.size <= 1000000) {c i : Nat} {t : Δ} (hi : i < s.size) (h : txtA (bts s) (i + 1) = .ok t j) : TriU Θ (trb c) W fTxt [.ptr 0 0] (oU s i) (sv t) (oU s j) := by
 have hfs : Few s.size := by unfold Few; omega
 have hlen : (bts s).length = s.size := rfl; unfold txtA at h
 obtain ⟨acc, hT, rfl⟩ : ∃ acc, txtP (bts s) ((bts s).length + 1) (i + 1) [] = .ok acc j /\ t = tB acc := by
  cases hx : txtP (bts s) ((bts s).length + 1) (i + 1) [] with
  | err e => rw [hx] at h; cases h
  | ok a j => rw [hx] at h; injection h with h1 h2; subst h1 h2; exact ⟨a, rfl, rfl⟩
 have hw := EU' hfs hi
 refine A9' [0, 999] rfl (fun _ _ => noCU) (fun F hF => MJ' (gI' hW hs (m := tB acc) (HZ := oU s j) (fun e he => by cases he) (fun a j' he => by injection he with h1 h2; subst h1 h2; exact ⟨rfl, rfl⟩) ω ω hT rfl (P5' _ _ _) F hF)) fun F => Yj (bS' W s (tB acc) i j c F) ⟨⟨?_, ((AJ' (vs' := [sv (tB acc)]) (H' := oU s j) [] rfl rfl (Yb) ⟨⟨_, rfl, Yc⟩, ⟨_, rfl, Yc⟩, Ye⟩).fits rfl).e⟩⟩
 exact Cb13'
noncomputable section
abbrev fCt : Nat := 60
abbrev fIx : Nat := 28
def sS (i n : Nat) : AV := .slice i 0 n 1 (.lo n)
def aIx (n : Δ) (m i : Nat) : List (Nat × AV) := [(0, sS 1 m), (1, sv n), (7, iv (o' m)), (8, iv (o' i))]
def hIx (x : Δ) (i : Nat) (b : Bool) : AX' := AD' [ht' fIx 2 0, (fIx, 4, 4, hv (sv x)), (fIx, 4, 5, hv (.lit b)), (fIx, 6, 0, hv (iv (o' (i + 1))))]
abbrev k139' (q0 : Nat) (q1 : List Δ) (q2 : Δ) : Cnd := ((p' ((0 + q0 * 1).blt (rowV encS q1).length = true)).a ((p' ((rowV encS q1).getD (0 + q0 * 1) (u') = v' (Value.string ((rowV encS q1).getD (0 + q0 * 1) (u')).strOf))).a (f' (Wk (v' (Value.string ((rowV encS q1).getD (0 + q0 * 1) (u')).strOf)) (s' q2)))))
theorem Y1' (L : List Δ) (n x : Δ) (m i : Nat) (F : HP) : BU' [] (hIx x i false) [] default fIx (AA' fIx 2) (tms 0 19 (aIx n m i)) [(1, rS L)] [1] [0, 1, 7, 8, 4] F = VT.leaf (AX.normal,[AV.slice 1 0 m 1 (Cp.lo m),s' n,i' m,i' (i + 1),a'],19) [some (ce' (rowV encS L) 18)] 1100 ((k69' i m).a ((f' (i.blt m = true)).a ((k139' i L x).a ((wb' (n.toList == x.toList) g').a ((k59' i).a k1'))))) := χ
theorem lB' (L : List Δ) (n x : Δ) (m i : Nat) (F : HP) : BU' [] (hIx x i true) [] default fIx (AA' fIx 2) (tms 0 19 (aIx n m i)) [(1, rS L)] [1] [0, 1, 7, 8, 4] F = VT.leaf (AX.ret,[AV.slice 1 0 m 1 (Cp.lo m),s' n,i' m,i' i,i' i],19) [some (ce' (rowV encS L) 18)] 1100 ((k69' i m).a ((f' (i.blt m = true)).a ((k139' i L x).a ((wb' (n.toList == x.toList) j').a k1')))) := χ
theorem lC' (L : List Δ) (n : Δ) (m : Nat) (F : HP) : BU' [] (AD' [hf' fIx 2 0]) [] default fIx (AA' fIx 2) (tms 0 19 (aIx n m m)) [(1, rS L)] [1] [0, 1, 7, 8, 4] F = VT.leaf (AX.exit 0,[AV.slice 1 0 m 1 (Cp.lo m),s' n,i' m,i' m,a'],19) [some (ce' (rowV encS L) 18)] 1100 ((k79' m).a k1') := χ
def lIxY (L : List Δ) (n : Δ) (m k : Nat) : List AV -> AP (AX × List AV) := mkL (fun _ => .ret ()) (fun _ => True) (fun _ k => k) (fun _ => tms 0 19 (aIx n m 0)) (fun _ => [(1, rS L)]) (fun _ => .leaf .ret (tms 0 19 [(4, iv (o' k))]) [(1, rS L)])
def lIxE (L : List Δ) (n : Δ) (m : Nat) : List AV -> AP (AX × List AV) := mkL (fun _ => .ret ()) (fun _ => True) (fun _ k => k) (fun _ => tms 0 19 (aIx n m 0)) (fun _ => [(1, rS L)]) (fun _ => .leaf (.exit 0) (tms 0 19 []) [(1, rS L)])
theorem lT' (L : List Δ) (n : Δ) (m k : Nat) (F : HP) : wRun [] (AD' [(fCt, 1, 3, hv (bv true))]) [(fIx, 2, AA' fIx 2, lIxY L n m k)] default fCt [sS 1 m, sv n] [(1, rS L)] [1] F = VT.leaf (b' true) [some (ce' (AV.rens (sgN (fun k => k) [] 0) (rowV encS L)) 18)] 1100 (((p' ((fIx,2,AA' fIx 2,lIxY L n m k).snd.snd.fst = (fIx,2,AA' fIx 2,lIxY L n m k).snd.snd.fst)).a ((Cnd.p True).a ((p' (VW (AV.slice 1 0 m 1 (Cp.lo m)::s' n::u'::u'::i' 0::u'::AV.slice 1 0 m 1 (Cp.lo m)::z' ↑m::i' 0::ru8 (u'::u'::[])) (AV.slice 1 0 m 1 (Cp.lo m)::s' n::ra4 (a'::i' m::i' 0::ra8 (a'::a'::[]))))).a (f' (OW (ce' (rowV encS L) 18) (ce' (AV.rens (fun k => k) (rowV encS L)) 18)))))).a ((f' (Wk (b' true) (b' true))).a k1')) := χ
theorem lU' (L : List Δ) (n : Δ) (m : Nat) (F : HP) : wRun [] B4' [(fIx, 2, AA' fIx 2, lIxE L n m)] default fCt [sS 1 m, sv n] [(1, rS L)] [1] F = VT.leaf (b' false) [some (ce' (AV.rens (sgN (fun k => k) [] 0) (rowV encS L)) 18)] 1100 (((p' ((fIx,2,AA' fIx 2,lIxE L n m).snd.snd.fst = (fIx,2,AA' fIx 2,lIxE L n m).snd.snd.fst)).a ((Cnd.p True).a ((p' (VW (AV.slice 1 0 m 1 (Cp.lo m)::s' n::u'::u'::i' 0::u'::AV.slice 1 0 m 1 (Cp.lo m)::z' ↑m::i' 0::ru8 (u'::u'::[])) (AV.slice 1 0 m 1 (Cp.lo m)::s' n::ra4 (a'::i' m::i' 0::ra8 (a'::a'::[]))))).a (f' (OW (ce' (rowV encS L) 18) (ce' (AV.rens (fun k => k) (rowV encS L)) 18)))))).a k1') := χ
theorem lS' (n : Δ) (F : HP) : wRun [] B4' [] default fCt [nilS, sv n] [] [] F = VT.ite false (VT.bad "indexAddr") (VT.leaf (b' false) [] 1100 k1') := χ
end
theorem W7' (a b : Δ) : (a.toList == b.toList) = (bts a == bts b) := by
 rw [LP', LP']; rfl
theorem e7' (L : List Δ) (n : Δ) (hL : L.length <= 1000000) (k : Nat) (hk : k < L.length) (hn : bts (L.getD k nil0) = bts n) (hno : ∀ j, j < k -> bts (L.getD j nil0) ≠ bts n) :
  LTri Θ default (AA' fIx 2) (tms 0 19 (aIx n L.length 0)) [(1, rS L)] .ret (tms 0 19 [(4, iv (o' k))]) [(1, rS L)] := by
 refine CC' (W := default) (g := fIx) (b := AA' fIx 2) (σ := {i : Nat // i <= k}) 19 (fun i => aIx n L.length i.1) (fun _ => [(1, rS L)]) .ret _ [(1, rS L)] (fun i => k - i.1) [1] [0, 1, 7, 8, 4] (by intro h; cases h) (fun _ => rfl) rfl ?_ ⟨0, Nat.zero_le _⟩; rintro ⟨i, hi⟩; simp only
 have hil : i < L.length := ω
 have e1 := (IG' i L.length).trans (decide_eq_true hil); have g1 := fZ' L i hil; have g2 := rS_lt L i hil
 by_cases h1 : i < k
 ·have hne : (n.toList == (L.getD i nil0).toList) = false := by rw [W7']; exact beq_eq_false_iff_ne.2 (fun h => hno i h1 h.symm)
  refine ⟨[], hIx (L.getD i nil0) i false, [], fun _ _ => noC, fun _ _ => noL, fun F => Yj (Y1' L n (L.getD i nil0) L.length i F) ⟨⟨?_, rfl, .inl ⟨rfl, ⟨i + 1, h1⟩, C9' h1, [], rfl, rfl, ⟨Ya, Ya, Ya, Ya, Ye⟩, ⟨_, rfl, OV' rfl rfl⟩, Ye⟩⟩⟩⟩
  exact Cb14'
 ·have hie : i = k := ω
  subst hie
  have hne : (n.toList == (L.getD i nil0).toList) = true := by rw [W7', hn]; exact beq_self_eq_true _
  refine ⟨[], hIx (L.getD i nil0) i true, [], fun _ _ => noC, fun _ _ => noL, fun F => Yj (lB' L n (L.getD i nil0) L.length i F) ⟨⟨?_, rfl, .inr ⟨rfl, [], rfl, rfl, ⟨Ya, Ye⟩, ⟨_, rfl, OV' rfl rfl⟩, Ye⟩⟩⟩⟩
  exact Cb14'
theorem e8' (L : List Δ) (n : Δ) (hL : L.length <= 1000000) (hno : ∀ j, j < L.length -> bts (L.getD j nil0) ≠ bts n) :
  LTri Θ default (AA' fIx 2) (tms 0 19 (aIx n L.length 0)) [(1, rS L)] (.exit 0) (tms 0 19 []) [(1, rS L)] := by
 refine CC' (W := default) (g := fIx) (b := AA' fIx 2) (σ := {i : Nat // i <= L.length}) 19 (fun i => aIx n L.length i.1) (fun _ => [(1, rS L)]) (.exit 0) [] [(1, rS L)] (fun i => L.length - i.1) [1] [0, 1, 7, 8, 4] (by intro h; cases h) (fun _ => rfl) rfl ?_ ⟨0, Nat.zero_le _⟩; rintro ⟨i, hi⟩; simp only
 by_cases h1 : i < L.length
 ·have e1 := (IG' i L.length).trans (decide_eq_true h1); have g1 := fZ' L i h1; have g2 := rS_lt L i h1
  have hne : (n.toList == (L.getD i nil0).toList) = false := by rw [W7']; exact beq_eq_false_iff_ne.2 (fun h => hno i h1 h.symm)
  refine ⟨[], hIx (L.getD i nil0) i false, [], fun _ _ => noC, fun _ _ => noL, fun F => Yj (Y1' L n (L.getD i nil0) L.length i F) ⟨⟨?_, rfl, .inl ⟨rfl, ⟨i + 1, h1⟩, C9' h1, [], rfl, rfl, ⟨Ya, Ya, Ya, Ya, Ye⟩, ⟨_, rfl, OV' rfl rfl⟩, Ye⟩⟩⟩⟩
  exact Cb14'
 ·have hie : i = L.length := ω
  subst hie; have e1 := (IG' L.length L.length).trans (decide_eq_false (Nat.lt_irrefl _))
  refine ⟨[], AD' [hf' fIx 2 0], [], fun _ _ => noC, fun _ _ => noL, fun F => Yj (lC' L n L.length F) ⟨⟨?_, rfl, .inr ⟨rfl, [], rfl, rfl, Ye, ⟨_, rfl, OV' rfl rfl⟩, Ye⟩⟩⟩⟩
  exact Cb1'
theorem hN' (L : List Δ) (n : Δ) (m i : Nat) : ∀ x ∈ aIx n m i, AV.cl (kH [(1, rS L)]) x.2 := A2' rfl (A2' Ye (A2' Ye (A2' Ye A4')))
theorem Ct_tri (L : List Δ) (n : Δ) (hL : L.length <= 1000000) : Tri Θ default fCt [sS 1 L.length, sv n] [(1, rS L)] (bv (hasM L n)) [(1, rS L)] := by
 have hfit : ∀ b : Bool, Fits [1] [bv b] [some (.cells (AV.rens (sgN (fun k => k) [] 0) (rowV encS L)) 18)] [bv b] [(1, rS L)] := fun b => by
  rw [AO']; exact (AJ' (vs' := [bv b]) (H' := [(1, rS L)]) [] rfl rfl (Yb) ⟨⟨_, rfl, OV' rfl rfl⟩, Ye⟩).fits rfl
 have hfi : ∀ j, j < L.length -> (L.map bts)[j]? = some (bts (L.getD j nil0)) := fun j hj => by
  rw [List.getElem?_map, List.getD_eq_getElem?_getD, List.getElem?_eq_getElem hj]; rfl
 cases hc : (L.map bts).findIdx? (· == bts n) with
 | some k =>
  obtain ⟨hk, h1, h2⟩ := List.findIdx?_eq_some_iff_getElem.1 hc
  have hk' : k < L.length := by rw [List.length_map] at hk; exact hk
  have hat : ∀ j (hj : j < (L.map bts).length), (L.map bts)[j] = bts (L.getD j nil0) := fun j hj => by
   have := hfi j (by rw [List.length_map] at hj; exact hj); rw [List.getElem?_eq_getElem hj] at this; exact Option.some.inj this
  have h1' : bts (L.getD k nil0) = bts n := by rw [<- hat k hk]; exact beq_iff_eq.1 h1
  have h2' : ∀ j, j < k -> bts (L.getD j nil0) ≠ bts n := fun j hj h => by
   have h3 := h2 j hj; rw [hat j ω] at h3; exact h3 (beq_iff_eq.2 h)
  have hin : hasM L n = true := by
   unfold hasM; rw [List.contains_iff_mem]; show bts n ∈ L.map bts; rw [<- h1', <- hat k hk]; exact List.getElem_mem hk
  rw [hin]
  refine AN' [1] rfl (fun _ _ => noC) (fun F hF => HS' (GN' (W := default) GM' (fun _ => RO.ret _) (fun _ _ => e7' L n hL k hk' h1' h2') fun _ => by
   simp only [RT.pick]
   exact C4' rfl rfl (hN' L n _ _) (A2' (G9' _ _) A4') (A2' Ye A4') (A2' (G9' _ _) A4'))) fun F => Yj (lT' L n L.length k F) ⟨⟨?_, hfit true⟩⟩
  exact Cb15'
 | none =>
  have hno := List.findIdx?_eq_none_iff.1 hc
  have h2' : ∀ j, j < L.length -> bts (L.getD j nil0) ≠ bts n := fun j hj h => by
   have h3 := hno _ (List.mem_of_getElem? (hfi j hj)); rw [h] at h3; simp at h3
  have hin : hasM L n = false := by
   unfold hasM; rw [Bool.eq_false_iff]; intro h; have h3 := hno (bts n) (List.contains_iff_mem.1 h); simp at h3
  rw [hin]
  refine AN' [1] rfl (fun _ _ => noC) (fun F hF => HS' (GN' (W := default) GM' (fun _ => RO.ret _) (fun _ _ => e8' L n hL h2') fun _ => by
   simp only [RT.pick]
   exact C4' rfl rfl (hN' L n _ _) (A2' (G9' _ _) A4') A4' (A2' (G9' _ _) A4'))) fun F => Yj (lU' L n L.length F) ⟨⟨?_, hfit false⟩⟩
  exact Cb15'
theorem nZ' (n : Δ) : Tri Θ default fCt [nilS, sv n] [] (bv false) [] :=
 AN' [] rfl (fun _ _ => noC) (fun _ _ => noL) fun F => Yj (lS' n F) (VAll.ite (fun h => by cases h) (fun _ => ⟨⟨Ye, (AJ' (vs' := [bv false]) (H' := []) [] rfl rfl (Yb) trivial).fits rfl⟩⟩))
noncomputable section
abbrev fVal : Nat := 25
abbrev fLs : Nat := 41
abbrev fOb : Nat := 42
abbrev DQ' : Nat := 30
def dum : AO := .any (HP.pure True)
def aV (k n : Int) (t : Δ) (LV NV : AV) : AV := .agg [iv k, iv n, sv t, LV, NV]
def oV (s : Δ) (j : Nat) (OL ON : AO) : LH := [(0, rdO s j), (999, upO), (1006, OL), (1007, ON)]
def BW' (s0 : Δ) (i0 : Nat) (p : RS) : Prop := p.s = s0 /\ p.i = i0
def cDie (A : List AV) (s : Δ) (i : Nat) (z : AV) : List AV -> Option (AP AV) := mkC gR2 (BW' s i) nmR (fun _ => A) (fun p => oU p.s p.i) (fun p => .leaf .ret [z] (oX p.s p.i))
def cVO (A : List AV) (s : Δ) (i : Nat) (k n : Int) (t : Δ) (LV NV : AV) (OL ON : AO) (j : Nat) : List AV -> Option (AP AV) := mkC gR2 (BW' s i) nmR (fun _ => A) (fun p => oU p.s p.i) (fun p => .leaf .ret [aV k n t LV NV] (oV p.s j OL ON))
def V1' (s : Δ) (i : Nat) (z : AV) : List AV -> Option (AP AV) := mkC gR1 (BW' s i) nmR (fun _ => [.ptr 0 0]) (fun p => oU p.s p.i) (fun p => .leaf .ret [z] (oX p.s p.i))
def cTo1 (s : Δ) (i : Nat) (z : AV) (j : Nat) : List AV -> Option (AP AV) := mkC gR1 (BW' s i) nmR (fun _ => [.ptr 0 0]) (fun p => oU p.s p.i) (fun p => .leaf .ret [z] (oU p.s j))
def cTo2 (A : List AV) (s : Δ) (i : Nat) (z : AV) (j : Nat) : List AV -> Option (AP AV) := mkC gR2 (BW' s i) nmR (fun _ => A) (fun p => oU p.s p.i) (fun p => .leaf .ret [z] (oU p.s j))
def DT' (t : Δ) (n : Nat) (b : Bool) : List AV -> Option (AP AV) := mkC (fun _ => .ret ()) (fun _ => True) (fun _ k => k) (fun _ => [sv t]) (fun _ => []) (fun _ => .leaf .ret [.tuple [iv (o' n), bv b]] [])
def kV : List Nat := [0, 999, 1101, 1102]
def aVal (dep : Nat) : List AV := [.ptr 0 0, iv (o' dep)]
abbrev LY' (z : Cnd) : Cnd := ((p' (∀ (a b : Nat) (D : Nat -> Prop) (w : World),¬(noH a b).on D w)).a (tt'.a ((p' ([i' 0,i' 0,s' y9',e',e'] = [i' 0,i' 0,s' y9',e',e'])).a z)))
abbrev k141' (q0 : Δ) (q1 : Nat) : Cnd := ((p' (BW' q0 q1 (RS.mk 0 q1 q0))).a ((vw' [pt' 0 0]).a ((ow' (ce' [s' q0,i' q1] 114)).a (f' (OW Ω Ω)))))
theorem jD' (W : World) (s : Δ) (i0 i dep c : Nat) (F : HP) : uRun (trb c) [(fNx, V1' s i0 (byv 0)), (fGv, cGv c)] (AD' ([hf' fVal 3 0, hf' fVal 4 0, hf' fVal 11 0, hf' fVal 13 0, hf' fVal 16 0, hf' fVal 19 0, hf' fVal 22 0, hf' fVal 23 0, hf' fVal 24 0, hf' fVal 25 0, hf' fVal 26 0, hf' fVal 27 0, hf' fVal 28 0, hf' fVal 29 0, hf' fVal 30 0, hf' fVal 31 0, hf' fVal 32 0])) [] W fVal (aVal dep) (oU s i0) kV F = VT.leaf (AV.agg [i' 0,i' 0,s' y9',e',e']) [some (ce' [s' s,i' i0] 114),some (AO.own Md.nothing noH),none,none] 1101 ((k141' s i0).a (LY' k1')) := χ
abbrev k142' (q0 : UInt8) : Cnd := (nb' q0 56)
abbrev YX' (q0 : Δ) (q1 : Nat) (q2 : UInt8) (z : Cnd) : Cnd := (((p' (BW' q0 q1 (RS.mk 0 q1 q0))).a ((vw' [pt' 0 0]).a ((ow' (ce' [s' q0,i' q1] 114)).a (f' (OW Ω Ω))))).a ((nb' q2 123).a ((nb' q2 91).a ((nb' q2 34).a ((nb' q2 116).a ((nb' q2 102).a ((nb' q2 110).a ((nb' q2 45).a ((nb' q2 48).a ((nb' q2 49).a ((nb' q2 50).a ((nb' q2 51).a ((nb' q2 52).a ((nb' q2 53).a ((nb' q2 54).a ((nb' q2 55).a z))))))))))))))))
theorem jC' (W : World) (s : Δ) (i0 i dep c : Nat) (x : UInt8) (F : HP) : uRun (trb c) [(fNx, cTo1 s i0 (byv x) i), (fGv, cGv c)] (AD' ([hf' fVal 3 0, hf' fVal 4 0, hf' fVal 11 0, hf' fVal 13 0, hf' fVal 16 0, hf' fVal 19 0, hf' fVal 22 0, hf' fVal 23 0, hf' fVal 24 0, hf' fVal 25 0, hf' fVal 26 0, hf' fVal 27 0, hf' fVal 28 0, hf' fVal 29 0, hf' fVal 30 0, hf' fVal 31 0, hf' fVal 32 0])) [] W fVal (aVal dep) (oU s i0) kV F = VT.leaf (AV.agg [i' 0,i' 0,s' y9',e',e']) [some (ce' [s' s,i' i] 114),some (AO.own Md.nothing noH),none,none] 1101 (YX' s i0 x ((k142' x).a ((nb' x 57).a ((k54' c).a (LY' k1'))))) := χ
abbrev k144' (q0 : Nat) : Cnd := ((p' (8 = q0 /\ 8 <= 255)).a ((vw' [i' 8]).a (f' (OW Ω Ω))))
abbrev k145' (q0 : Nat) : Cnd := (wb' (decide (o' q0 > o' 16)) j')
theorem X3' (W : World) (s : Δ) (i0 i dep c : Nat) (x : UInt8) (F : HP) : uRun (trb c) [(fNx, cTo1 s i0 (byv x) i), (fGv, cGv c)] (AD' ([ht' fVal 3 0] ++ [ht' fVal 5 1, (fVal, 7, 4, hv (iv (o' (i + 1)))), hf' fVal 8 1])) [] W fVal (aVal dep) (oU s i0) kV F = VT.leaf (AV.agg [i' 0,i' 0,s' y9',e',e']) [some (ce' [s' s,i' i] 114),some (AO.own Md.nothing noH),none,none] 1101 ((k141' s i0).a ((nt' x 123).a ((k145' dep).a ((k144' c).a (LY' k1'))))) := χ
theorem XA' (W : World) (s : Δ) (i0 i dep c : Nat) (x : UInt8) (F : HP) : uRun (trb c) [(fNx, cTo1 s i0 (byv x) i), (fGv, cGv c)] (AD' ([hf' fVal 3 0, ht' fVal 4 0] ++ [ht' fVal 5 1, (fVal, 7, 4, hv (iv (o' (i + 1)))), ht' fVal 8 1])) [] W fVal (aVal dep) (oU s i0) kV F = VT.leaf (AV.agg [i' 0,i' 0,s' y9',e',e']) [some (ce' [s' s,i' i] 114),some (AO.own Md.nothing noH),none,none] 1101 ((k141' s i0).a ((nb' x 123).a ((nt' x 91).a ((k145' dep).a ((k144' c).a (LY' k1')))))) := χ
end
end Go.Proofs.YtdphpillcaajpaaDoor.Js
namespace Go.Proofs.YtdphpillcaajpaaDoor.Tree
open Go Go.RowKit Eng Kit
open List renaming length_append -> la'
variable {w W0 : World} {N : A5'} {d i : Nat} {e : TypeId} {F : HP} {H : LH}
inductive Tv where
 | mk (kind num : Int) (text : Δ) (list : List Tv) (tab : List (Δ × Tv))
 deriving Inhabited
abbrev Tf := List (Δ × Tv)
def Tv.kind : Tv -> Int
 | .mk k _ _ _ _ => k
def Tv.num : Tv -> Int
 | .mk _ n _ _ _ => n
def Tv.text : Tv -> Δ
 | .mk _ _ t _ _ => t
def Tv.list : Tv -> List Tv
 | .mk _ _ _ l _ => l
def Tv.tab : Tv -> Tf
 | .mk _ _ _ _ f => f
structure Rv where
 k : Int
 n : Int
 t : Δ
 la : Option Addr
 ll : Nat
 lc : Nat
 ta : Option Addr
 tl : Nat
 tc : Nat
 deriving Inhabited
def Rv.cells (r : Rv) : List Value := [.int .i64 r.k, .int .i64 r.n, .string r.t, .slice r.la r.ll r.lc, .slice r.ta r.tl r.tc]
abbrev Mem := Addr -> Option Value
def IX' (C : Mem) (a : Addr) (cs : List Value) : Prop := ∀ j u, cs[j]? = some u -> C (a.add j) = some u
def big : Nat := 140737488351232
def LOf (V : Tv -> Rv -> Prop) (C : Mem) (oa : Option Addr) (l : List Tv) : Prop := l.length * 80 <= big /\ ∀ i x, l[i]? = some x -> ∃ a r, oa = some a /\ IX' C (a.add (i * 5)) r.cells /\ V x r
def FOf (V : Tv -> Rv -> Prop) (C : Mem) (oa : Option Addr) (f : Tf) : Prop := f.length * 96 <= big /\ ∀ i nm x, f[i]? = some (nm, x) -> ∃ a r, oa = some a /\ IX' C (a.add (i * 6)) (.string nm :: r.cells) /\ V x r
def VAt (C : Mem) : Nat -> Tv -> Rv -> Prop
 | 0 => fun _ _ => False
 | d + 1 => fun v r => (r.k = v.kind /\ r.n = v.num /\ r.t = v.text /\ r.ll = v.list.length /\ r.tl = v.tab.length) /\ LOf (VAt C d) C r.la v.list /\ FOf (VAt C d) C r.ta v.tab
abbrev LAt (C : Mem) (d : Nat) := LOf (VAt C d) C
abbrev FAt (C : Mem) (d : Nat) := FOf (VAt C d) C
theorem IX'.mono {C C' : Mem} (h : ∀ a v, C a = some v -> C' a = some v) {a : Addr} {cs : List Value} (hc : IX' C a cs) : IX' C' a cs := fun j u hu => h _ _ (hc j u hu)
theorem LOf.mono {V V' : Tv -> Rv -> Prop} (hV : ∀ x r, V x r -> V' x r) {C C' : Mem} (h : ∀ a v, C a = some v -> C' a = some v) {oa : Option Addr} {l : List Tv} (hl : LOf V C oa l) : LOf V' C' oa l :=
 ⟨hl.1, fun i x hx => by
  obtain ⟨a, r, h1, h2, h3⟩ := hl.2 i x hx
  exact ⟨a, r, h1, h2.mono h, hV _ _ h3⟩⟩
theorem FOf.mono {V V' : Tv -> Rv -> Prop} (hV : ∀ x r, V x r -> V' x r) {C C' : Mem} (h : ∀ a v, C a = some v -> C' a = some v) {oa : Option Addr} {f : Tf} (hf : FOf V C oa f) : FOf V' C' oa f :=
 ⟨hf.1, fun i nm x hx => by
  obtain ⟨a, r, h1, h2, h3⟩ := hf.2 i nm x hx
  exact ⟨a, r, h1, h2.mono h, hV _ _ h3⟩⟩
theorem VAt.mono {C C' : Mem} (h : ∀ a v, C a = some v -> C' a = some v) : ∀ {d : Nat} {v : Tv} {r : Rv}, VAt C d v r -> VAt C' d v r
 | 0, _, _, hv => hv.elim
 | d + 1, v, r, hv => ⟨hv.1, hv.2.1.mono (fun x r hx => VAt.mono h hx) h, hv.2.2.mono (fun x r hx => VAt.mono h hx) h⟩
theorem LAt.mono {C C' : Mem} (h : ∀ a v, C a = some v -> C' a = some v) {oa : Option Addr} {l : List Tv} (hl : LAt C d oa l) : LAt C' d oa l := LOf.mono (fun _ _ hx => VAt.mono h hx) h hl
theorem FAt.mono {C C' : Mem} (h : ∀ a v, C a = some v -> C' a = some v) {oa : Option Addr} {l : Tf} (hl : FAt C d oa l) : FAt C' d oa l := FOf.mono (fun _ _ hx => VAt.mono h hx) h hl
noncomputable section
def CD' (D : Nat -> Prop) (w : World) : Mem := fun a => by classical exact if D a.block then w.cell? a else none
theorem NL' {D : Nat -> Prop} {a : Addr} (h : D a.block) : CD' D w a = w.cell? a := by unfold CD'; rw [if_pos h]
theorem J9' {D : Nat -> Prop} {a : Addr} {v : Value} (h : CD' D w a = some v) : D a.block /\ w.cell? a = some v := by
 unfold CD' at h; split at h
 ·rename_i hd; exact ⟨hd, h⟩
 ·cases h
theorem C0' {D D' : Nat -> Prop} (h : ∀ b, D b -> D' b) : ∀ a v, CD' D w a = some v -> CD' D' w a = some v := fun a v ha => by
 obtain ⟨h1, h2⟩ := J9' ha; rw [NL' (h _ h1)]; exact h2
theorem f8' {w' : World} {a : Addr} (h : w'.heap[a.block]? = w.heap[a.block]?) : w'.cell? a = w.cell? a := by unfold World.cell?; rw [h]
theorem YD' {D : Nat -> Prop} {w' : World} (h : ∀ b, D b -> w'.heap[b]? = w.heap[b]?) : CD' D w' = CD' D w := by
 funext a; unfold CD'; split
 ·rename_i hd; exact f8' (h _ hd)
 ·rfl
def frz (P : Mem -> Prop) : HP where
 on D w := P (CD' D w) /\ ∀ b, D b -> b < w.heap.size
 far {D w w'} hf := fun ⟨h1, h2⟩ => ⟨by rw [YD' hf]; exact h1, fun b hb => by
  have h3 := hf b hb; rw [Array.getElem?_eq_getElem (h2 b hb)] at h3
  exact (Array.getElem?_eq_some_iff.1 h3).1⟩
 lt {D w} := fun ⟨_, h2⟩ => h2
theorem MG' {N1 : A5'} {H' : LH} {D0 : Nat -> Prop} {D : Nat -> Nat -> Prop} (hl : AE' 1100 H = true) (hl' : AE' 1100 H' = true) (r : Rep W0 N1 F (AL' H) w)
  (h1 : F.on D0 w) (h2 : ∀ i o, getO H i = some o -> OR N1 i o (D i) w /\ ∀ b, D i b -> ¬ D0 b) (h3 : ∀ i j o o', getO H i = some o -> getO H j = some o' -> i ≠ j -> ∀ b, D i b -> ¬ D j b)
  (k : Nat) (S : Nat -> Prop) (hkS : ¬ S k) {ok : AO} (hk0 : getO H k = some ok)
  (hn : ∀ n o', n ≠ k -> getO H' n = some o' -> ¬ S n /\ ∃ o, getO H n = some o /\ OR N1 n o' (D n) w)
  (hk : ∀ o', getO H' k = some o' -> OR N1 k o' (fun x => D k x \/ ∃ j, S j /\ (∃ o, getO H j = some o) /\ D j x) w) : Rep W0 N1 F (AL' H') w := by
 classical
 have hf' : ∀ n, (AL' H').find n = getO H' n := AI' (CF' hl')
 refine ⟨r.os, r.tape, r.output, D0, fun n x => if n = k then (D k x \/ ∃ j, S j /\ (∃ o, getO H j = some o) /\ D j x) else D n x, h1, fun n o hno => ?_, fun n m o o' hno hmo hnm b hb hb' => ?_⟩
 ·rw [hf'] at hno
  by_cases e : n = k
  ·subst e; simp only [if_true]
   refine ⟨hk o hno, fun b hb => ?_⟩
   rcases hb with hb | ⟨j, _, ⟨oj, hj⟩, hb⟩
   ·exact (h2 n _ hk0).2 b hb
   ·exact (h2 j _ hj).2 b hb
  ·simp only [if_neg e]; obtain ⟨_, o0, q1, q2⟩ := hn n o e hno; exact ⟨q2, (h2 n _ q1).2⟩
 ·rw [hf'] at hno hmo
  have key : ∀ m o', getO H' m = some o' -> m ≠ k -> ∀ b, (D k b \/ ∃ j, S j /\ (∃ o, getO H j = some o) /\ D j b) -> ¬ D m b := by
   intro m o' hm hmk b hb; obtain ⟨q0, o1, q1, _⟩ := hn m o' hmk hm
   rcases hb with hb | ⟨j, hj, ⟨oj, hjo⟩, hb⟩
   ·exact h3 k m _ _ hk0 q1 (Ne.symm hmk) b hb
   ·exact h3 j m _ _ hjo q1 (fun e => q0 (e ▸ hj)) b hb
  by_cases e : n = k
  ·subst e; simp only [if_true] at hb; have e' : m ≠ n := Ne.symm hnm; simp only [if_neg e'] at hb'; exact key m o' hmo e' b hb hb'
  ·simp only [if_neg e] at hb
   by_cases e' : m = k
   ·subst e'; simp only [if_true] at hb'; exact key n o hno e b hb' hb
   ·simp only [if_neg e'] at hb'; obtain ⟨_, o1, q1, _⟩ := hn n o e hno; obtain ⟨_, o2, q2, _⟩ := hn m o' e' hmo; exact h3 n m _ _ q1 q2 hnm b hb hb'
variable (m : Md)
def ownL (d : Nat) (l : List Tv) : AO := .own m fun b _ => frz fun C => LAt C d (some ⟨b, 0, none⟩) l
variable {m}
theorem LOf.nil {V : Tv -> Rv -> Prop} {C : Mem} (oa : Option Addr) : LOf V C oa [] := ⟨Nat.zero_le _, fun i x h => by simp at h⟩
theorem FOf.nil {V : Tv -> Rv -> Prop} {C : Mem} (oa : Option Addr) : FOf V C oa [] := ⟨Nat.zero_le _, fun i nm x h => by simp at h⟩
theorem I6' {k n sz : Nat} {y : Value} (h : VR N (.slice k 0 n sz (.lo n)) y) : ∃ l x c, N k = some l /\ y = .slice (some ⟨l.blk, x, none⟩) n c /\ (0 < n -> x = l.off) := by
 simp only [VR] at h; obtain ⟨l, x, c, h1, h2, h3, h4, h5, h6⟩ := h
 refine ⟨l, x, c, h1, h2, fun hn => ?_⟩
 rcases h3 with h3 | h3
 ·rw [h3, Nat.add_zero]
 ·omega
def PF (d : Nat) (R : List (Δ × Rv)) (f : Tf) (C : Mem) : Prop := R.length = f.length /\ ∀ (i : Nat) (nm : Δ) (x : Tv), f[i]? = some (nm, x) -> ∃ r, R[i]? = some (nm, r) /\ VAt C d x r
def PV (d : Nat) (R : List Rv) (l : List Tv) (C : Mem) : Prop := R.length = l.length /\ ∀ (i : Nat) (x : Tv), l[i]? = some x -> ∃ r, R[i]? = some r /\ VAt C d x r
theorem PF.mono {R : List (Δ × Rv)} {f : Tf} {C C' : Mem} (h : ∀ a v, C a = some v -> C' a = some v) (hp : PF d R f C) : PF d R f C' := ⟨hp.1, fun i nm x hx => by
 obtain ⟨r, h1, h2⟩ := hp.2 i nm x hx
 exact ⟨r, h1, h2.mono h⟩⟩
theorem PV.mono {R : List Rv} {l : List Tv} {C C' : Mem} (h : ∀ a v, C a = some v -> C' a = some v) (hp : PV d R l C) : PV d R l C' := ⟨hp.1, fun i x hx => by
 obtain ⟨r, h1, h2⟩ := hp.2 i x hx
 exact ⟨r, h1, h2.mono h⟩⟩
theorem PF.add {R : List (Δ × Rv)} {f : Tf} {C : Mem} (hp : PF d R f C) {nm : Δ} {x : Tv} {r : Rv} (hx : VAt C d x r) : PF d (R ++ [(nm, r)]) (f ++ [(nm, x)]) C := by
 refine ⟨by simp [hp.1], fun i n y hy => ?_⟩
 rcases Nat.lt_or_ge i f.length with h | h
 ·rw [List.getElem?_append_left h] at hy; obtain ⟨s, h1, h2⟩ := hp.2 i n y hy
  exact ⟨s, by rw [List.getElem?_append_left (by have := hp.1; omega)]; exact h1, h2⟩
 ·rw [List.getElem?_append_right h] at hy
  have : i - f.length = 0 := by
   cases hk : i - f.length with
   | zero => rfl
   | succ n => rw [hk] at hy; simp at hy
  rw [this] at hy; simp only [List.getElem?_cons_zero, Option.some.injEq, Prod.mk.injEq] at hy; obtain ⟨rfl, rfl⟩ := hy; refine ⟨r, ?_, hx⟩
  rw [List.getElem?_append_right (by have := hp.1; omega), show i - R.length = 0 by have := hp.1; omega]
  rfl
theorem PV.add {R : List Rv} {f : List Tv} {C : Mem} (hp : PV d R f C) {x : Tv} {r : Rv} (hx : VAt C d x r) : PV d (R ++ [r]) (f ++ [x]) C := by
 refine ⟨by simp [hp.1], fun i y hy => ?_⟩
 rcases Nat.lt_or_ge i f.length with h | h
 ·rw [List.getElem?_append_left h] at hy; obtain ⟨s, h1, h2⟩ := hp.2 i y hy
  exact ⟨s, by rw [List.getElem?_append_left (by have := hp.1; omega)]; exact h1, h2⟩
 ·rw [List.getElem?_append_right h] at hy
  have : i - f.length = 0 := by
   cases hk : i - f.length with
   | zero => rfl
   | succ n => rw [hk] at hy; simp at hy
  rw [this] at hy; simp only [List.getElem?_cons_zero, Option.some.injEq] at hy; subst hy; refine ⟨r, ?_, hx⟩
  rw [List.getElem?_append_right (by have := hp.1; omega), show i - R.length = 0 by have := hp.1; omega]
  rfl
end
theorem RR' {a b : List AV} {D : Nat -> Prop} (h : OR N i (.cells (a ++ b) e) D w) : ∃ yb, VRs N b yb /\ ∀ c : List AV, c.length = b.length -> VRs N c yb -> OR N i (.cells (a ++ c) e) D w := by
 obtain ⟨l, arr, fz, h1, h2, h3, h4, h5, h6, h7, h8⟩ := h; obtain ⟨ys, hys⟩ : ∃ ys, (arr.toList.drop l.off).take (a ++ b).length = ys := ⟨_, rfl⟩
 have key : ∀ (a : List AV) (ys : List Value), VRs N (a ++ b) ys -> ∃ yb, VRs N b yb /\ ∀ c : List AV, VRs N c yb -> VRs N (a ++ c) ys := by
  intro a
  induction a with
  | nil => exact fun ys hy => ⟨ys, hy, fun c hc => hc⟩
  | cons x a ih =>
   intro ys hy; obtain ⟨y, r, q1, q2, rfl⟩ := hy; obtain ⟨yb, q3, q4⟩ := ih r q2
   exact ⟨yb, q3, fun c hc => ⟨y, r, q1, q4 c hc, rfl⟩⟩
 rw [hys] at h7; obtain ⟨yb, q3, q4⟩ := key a ys h7
 refine ⟨yb, q3, fun c hc hv => ⟨l, arr, fz, h1, h2, h3, h4, ?_, h6, ?_, h8⟩⟩
 ·rw [la', hc, <- la']; exact h5
 ·rw [la', hc, <- la', hys]; exact q4 c hv
theorem WD' {vs : List AV} {ys : List Value} (hl : AE' 1100 H = true) (hs : St W0 F N H vs ys w) (i k : Nat) (S : List Nat) (hik : i ≠ k) (hiS : i ∉ S) (hkS : k ∉ S) {a b : List AV} {ok : AO}
  (hi : getO H i = some (.cells (a ++ b) e)) (hk : getO H k = some ok) (hkl : ∀ N1 D w, OR N1 k ok D w -> ∀ b, D b -> b < w.heap.size) (Q : List Value -> Mem -> Prop)
  (core : ∀ (N1 : A5') (D : Nat -> Nat -> Prop), (∀ n o, getO H n = some o -> OR N1 n o (D n) w) -> ∀ yb, VRs N1 b yb -> ∃ c : List Value, c.length = b.length /\ VRs N1 (vmap c) yb /\ Q c (CD' (fun x => D k x \/ ∃ j, j ∈ S /\ (∃ o, getO H j = some o) /\ D j x) w)) :
  ∃ c, (∃ C, Q c C) /\ ∀ (H' : LH) (Q' : Mem -> Prop), AE' 1100 H' = true -> getO H' i = some (.cells (a ++ vmap c) e) -> getO H' k = some (.any (frz Q')) -> (∀ C, Q c C -> Q' C) -> (∀ n o, n ≠ i -> n ≠ k -> getO H' n = some o -> n ∉ S /\ getO H n = some o) ->
   AV.cls (fun n => Nat.blt n 1000 || (getO H' n).isSome) vs -> (∀ x ∈ H', x.2.cl (fun n => Nat.blt n 1000 || (getO H' n).isSome)) -> St W0 F N H' vs ys w := by
 obtain ⟨N1, g1, g2, r, hvs⟩ := hs; obtain ⟨D0, D, h1, h2, h3⟩ := r.sat; have hf : ∀ n, (AL' H).find n = getO H n := AI' (CF' hl)
 have h2' : ∀ n o, getO H n = some o -> OR N1 n o (D n) w /\ ∀ b, D n b -> ¬ D0 b := fun n o hn => h2 n o (by rw [hf]; exact hn)
 obtain ⟨yb, q1, q2⟩ := RR' (h2' i _ hi).1; obtain ⟨c, c1, c2, c3⟩ := core N1 D (fun n o hn => (h2' n o hn).1) yb q1
 refine ⟨c, ⟨_, c3⟩, fun H' Q' hl' hi' hk' hQ hn hv ho => KR' hl' g1 (MG' hl hl' r h1 h2' (fun n m o o' hn hm => h3 n m o o' (by rw [hf]; exact hn) (by rw [hf]; exact hm)) k (fun n => n ∈ S) hkS hk (fun n o' hnk hno => ?_) fun o' hko => ?_) hvs hv ho⟩
 ·by_cases hni : n = i
  ·subst hni; rw [hi'] at hno; cases hno; exact ⟨hiS, _, hi, q2 _ (by rw [show (vmap c).length = c.length by simp [vmap]]; exact c1) c2⟩
  ·obtain ⟨a1, a2⟩ := hn n o' hni hnk hno; exact ⟨a1, o', a2, (h2' n o' a2).1⟩
 ·rw [hk'] at hko; cases hko
  refine ⟨hQ _ c3, fun b hb => ?_⟩
  rcases hb with hb | ⟨j, _, ⟨oj, hj⟩, hb⟩
  ·exact (h2' k _ hk).1.lt b hb
  ·exact (h2' j _ hj).1.lt b hb
theorem five {k n : Int} {t : Δ} {LV TV : AV} {yb : List Value} (h : VRs N [iv k, iv n, sv t, LV, TV] yb) : ∃ yl yt, VR N LV yl /\ VR N TV yt /\ yb = [.int .i64 k, .int .i64 n, .string t, yl, yt] := by
 obtain ⟨y0, r0, a0, h, rfl⟩ := h; obtain ⟨y1, r1, a1, h, rfl⟩ := h; obtain ⟨y2, r2, a2, h, rfl⟩ := h; obtain ⟨y3, r3, a3, h, rfl⟩ := h; obtain ⟨y4, r4, a4, h, rfl⟩ := h; have h : r4 = [] := h; subst h; have a0 : y0 = .int .i64 k := VR_v.1 a0; have a1 : y1 = .int .i64 n := VR_v.1 a1; have a2 : y2 = .string t := VR_v.1 a2; subst a0 a1 a2; exact ⟨y3, y4, a3, a4, rfl⟩
theorem ZU' {cs : List Value} {D : Nat -> Prop} (h : OR N i (.cells (vmap cs) (2 * e)) D w) : ∃ l, N i = some l /\ l.off = 0 /\ ∀ j u, cs[j]? = some u -> CD' D w ⟨l.blk, j, none⟩ = some u := by
 obtain ⟨l, arr, fz, h1, h2, h3, h4, h5, h6, h7, h8⟩ := h; obtain ⟨z, _⟩ := h8 (Nat.mul_mod_right 2 e)
 refine ⟨l, h1, z, fun j u hj => ?_⟩
 rw [NL' ((h2 _).2 rfl)]; have h7 := VRs.of_vmap h7
 have hlen : (vmap cs).length = cs.length := by simp [vmap]
 rw [z, List.drop_zero, hlen] at h7; unfold World.cell?; simp only [h3]; have hj' := (List.getElem?_eq_some_iff.1 hj).1
 have : (arr.toList.take cs.length)[j]? = some u := by rw [h7]; exact hj
 rw [List.getElem?_take_of_lt hj'] at this; simpa using this
theorem g4' {α : Type} {f : α -> List Value} {m : Nat} (hf : ∀ x, (f x).length = m) : ∀ (l : List α) (k j : Nat) (x : α), l[k]? = some x -> j < m -> (l.flatMap f)[k * m + j]? = (f x)[j]?
 | [], k, j, x, h, _ => by simp at h
 | y :: l, 0, j, x, h, hj => by
  simp only [List.getElem?_cons_zero, Option.some.injEq] at h; subst h; rw [List.flatMap_cons, Nat.zero_mul, Nat.zero_add, List.getElem?_append_left (by rw [hf]; exact hj)]
 | y :: l, k + 1, j, x, h, hj => by
  rw [List.getElem?_cons_succ] at h
  rw [List.flatMap_cons, List.getElem?_append_right (by rw [hf, Nat.succ_mul]; omega), hf, show (k + 1) * m + j - m = k * m + j from by rw [Nat.succ_mul]; omega]
  exact g4' hf l k j x h hj
theorem nK' (b n j : Nat) : ((Addr.mk b 0 none).add n).add j = Addr.mk b (n + j) none := by
 unfold Addr.add; split
 ·rename_i hj; subst hj; split
  ·rename_i hn; subst hn; rfl
  ·show Addr.mk b (0 + n) none = _; rw [Nat.zero_add, Nat.add_zero]
 ·split
  ·rename_i hn; subst hn; rfl
  ·show Addr.mk b (0 + n + j) none = _; rw [Nat.zero_add]
theorem NG' {α : Type} {f : α -> List Value} {m : Nat} (hf : ∀ x, (f x).length = m) {R : List α} {D : Nat -> Prop} (h : OR N i (.cells (rowV f R) (2 * e)) D w) :
  ∃ l, N i = some l /\ l.off = 0 /\ ∀ k x, R[k]? = some x -> IX' (CD' D w) ((Addr.mk l.blk 0 none).add (k * m)) (f x) := by
 obtain ⟨l, h1, h2, h3⟩ := ZU' (cs := R.flatMap f) h
 refine ⟨l, h1, h2, fun k x hx j u hu => ?_⟩
 rw [nK']; refine h3 _ _ ?_; rw [g4' hf R k j x hx (by rw [<- hf x]; exact (List.getElem?_eq_some_iff.1 hu).1)]; exact hu
theorem KG' {H' : LH} {vs : List AV} {ys : List Value} (hl : AE' 1100 H = true) (hl' : AE' 1100 H' = true) (hs : St W0 F N H vs ys w) (i k : Nat) (hik : i ≠ k) {oi o2 : AO} {P : Mem -> Prop}
  (hi : getO H i = some oi) (hk : getO H k = some (.any (frz P))) (hi' : getO H' i = some o2) (hk' : getO H' k = none) (hn : ∀ n o, n ≠ i -> n ≠ k -> getO H' n = some o -> getO H n = some o)
  (core : ∀ N1 Di Dk, OR N1 i oi Di w -> P (CD' Dk w) -> (∀ b, Dk b -> b < w.heap.size) -> (∀ b, Di b -> ¬ Dk b) -> OR N1 i o2 (fun x => Di x \/ Dk x) w)
  (hv : AV.cls (fun n => Nat.blt n 1000 || (getO H' n).isSome) vs) (ho : ∀ x ∈ H', x.2.cl (fun n => Nat.blt n 1000 || (getO H' n).isSome)) : St W0 F N H' vs ys w := by
 obtain ⟨N1, g1, g2, r, hvs⟩ := hs; obtain ⟨D0, D, h1, h2, h3⟩ := r.sat; have hf : ∀ n, (AL' H).find n = getO H n := AI' (CF' hl)
 have h2' : ∀ n o, getO H n = some o -> OR N1 n o (D n) w /\ ∀ b, D n b -> ¬ D0 b := fun n o hn => h2 n o (by rw [hf]; exact hn)
 have h3' : ∀ n m o o', getO H n = some o -> getO H m = some o' -> n ≠ m -> ∀ b, D n b -> ¬ D m b := fun n m o o' hn hm => h3 n m o o' (by rw [hf]; exact hn) (by rw [hf]; exact hm)
 refine KR' hl' g1 (MG' hl hl' r h1 h2' h3' i (fun n => n = k) hik hi (fun n o' hni hno => ?_) fun o' hio => ?_) hvs hv ho
 ·have hnk : n ≠ k := fun e => by rw [e, hk'] at hno; cases hno
  have := hn n o' hni hnk hno; exact ⟨hnk, o', this, (h2' n o' this).1⟩
 ·rw [hi'] at hio; cases hio; have hkk := (h2' k _ hk).1; have := core N1 (D i) (D k) (h2' i _ hi).1 hkk.1 hkk.2 (h3' i k _ _ hi hk hik)
  have e : (fun x => D i x \/ ∃ j, j = k /\ (∃ o, getO H j = some o) /\ D j x) = fun x => D i x \/ D k x := by
   funext x; refine propext ⟨?_, ?_⟩
   ·rintro (h | ⟨j, rfl, _, h⟩)
    ·exact .inl h
    ·exact .inr h
   ·rintro (h | h)
    ·exact .inl h
    ·exact .inr ⟨k, rfl, ⟨_, hk⟩, h⟩
  rw [e]; exact this
end Go.Proofs.YtdphpillcaajpaaDoor.Tree
namespace Go.Proofs.YtdphpillcaajpaaDoor.Js
open Go Go.RowKit Eng Kit
open Int renaming ofNat -> o'
open AO renaming cells -> ce'
open AV renaming v -> v'
open AV renaming ptr -> pt'
open Go.Value renaming slice -> sl'
variable {r : Rj} {n : Nat}
noncomputable section
abbrev fSa : Nat := 12
abbrev tJs : TypeId := 2 * 26
def cSa (r r' : Rj) : List AV -> Option (AP AV) := mkC (fun _ => .ret ()) (fun _ => True) (fun _ k => k) (fun _ => [aggJ r, aggJ r']) (fun _ => []) (fun _ => .leaf .ret [bv true] [])
def oSa (r r' : Rj) : LH := [(1000, .cells (vmap r.cells) tJs), (1001, .cells (vmap r'.cells) tJs)]
def aSn (i : Nat) : List (Nat × AV) := [(2, .ptr 1000 0), (3, .ptr 1001 0), (5, iv (o' i))]
def aSl (i : Nat) : List (Nat × AV) := [(2, .ptr 1000 0), (3, .ptr 1001 0), (6, iv (o' i))]
def hSn (i : Nat) (nm : Δ) : AX' := AD' [ht' fSa 4 4, (fSa, 6, 4, hv (sv nm)), (fSa, 6, 9, hv (sv nm)), hf' fSa 6 10, (fSa, 5, 1, hv (iv (o' (i + 1))))]
def hSl (i : Nat) (x x' : Rj) : AX' := AD' [ht' fSa 9 4, (fSa, 11, 4, hv (aggJ x)), (fSa, 11, 9, hv (aggJ x')), hf' fSa 11 11, (fSa, 10, 1, hv (iv (o' (i + 1))))]
abbrev UU' (q0 : Nat) (q1 : Rj) (q2 : World) (q3 : Addr) (q4 : Δ) (z : Cnd) : Cnd := ((fe' true).a ((f' (q0.blt q1.nl = true)).a (((p' ((q2.cell? (q3.add (q0 * 1))).isSome = true)).a ((p' (v' ((q2.cell? (q3.add (q0 * 1))).getD (Value.tuple (Array.mk []))) = v' (Value.string (v' ((q2.cell? (q3.add (q0 * 1))).getD (Value.tuple (Array.mk [])))).strOf))).a (f' (Wk (v' (Value.string (v' ((q2.cell? (q3.add (q0 * 1))).getD (Value.tuple (Array.mk [])))).strOf)) (s' q4))))).a z)))
theorem jN' (W : World) (r r' : Rj) (nm : Δ) (a b : Addr) (i : Nat) (F : HP) : BU' [] (hSn i nm) [] W fSa (AA' fSa 4) (tms 0 81 (aSn i)) (oSa { r with na := some a } { r' with na := some b }) [1000, 1001] [2, 3, 5] F = VT.leaf (AX.normal,[pt' 1000 0,pt' 1001 0,i' (i + 1)],81) [some (ce' [z' r.k,z' r.n,s' r.t,v' (sl' r.la r.ll r.lc),v' (sl' (some a) r.nl r.nc)] 52),some (ce' [z' r'.k,z' r'.n,s' r'.t,v' (sl' r'.la r'.ll r'.lc),v' (sl' (some b) r'.nl r'.nc)] 52)] 1100 (k40'.a ((wb' (decide (o' i < ↑r.nl)) j').a (UU' i r W a nm (UU' i r' W b nm ((f' (Wk (v' (Value.bool !nm.toList == nm.toList)) g')).a ((k59' i).a k1')))))) := χ
theorem jO' (W : World) (r r' : Rj) (F : HP) : BU' [] (AD' [hf' fSa 4 4]) [] W fSa (AA' fSa 4) (tms 0 81 (aSn r.nl)) (oSa r r') [1000, 1001] [2, 3, 5] F = VT.leaf (AX.exit 0,[pt' 1000 0,pt' 1001 0,i' r.nl],81) [some (ce' [z' r.k,z' r.n,s' r.t,v' (sl' r.la r.ll r.lc),v' (sl' r.na r.nl r.nc)] 52),some (ce' [z' r'.k,z' r'.n,s' r'.t,v' (sl' r'.la r'.ll r'.lc),v' (sl' r'.na r'.nl r'.nc)] 52)] 1100 (k40'.a ((wb' (decide (o' r.nl < ↑r.nl)) g').a k1')) := χ
abbrev k147' (q0 : World) (q1 : Addr) (q2 : Nat) (q3 : Rj) : Cnd := ((p' (([0,1,2,3,4].all fun j => (q0.cell? ((q1.add (q2 * 5)).add j)).isSome) = true)).a ((p' ([v' ((q0.cell? ((q1.add (q2 * 5)).add 0)).getD (Value.tuple (Array.mk []))),v' ((q0.cell? (Addr.mk (q1.add (q2 * 5)).block ((q1.add (q2 * 5)).off + 1) none)).getD (Value.tuple (Array.mk []))),v' ((q0.cell? (Addr.mk (q1.add (q2 * 5)).block ((q1.add (q2 * 5)).off + 2) none)).getD (Value.tuple (Array.mk []))),v' ((q0.cell? (Addr.mk (q1.add (q2 * 5)).block ((q1.add (q2 * 5)).off + 3) none)).getD (Value.tuple (Array.mk []))),v' ((q0.cell? (Addr.mk (q1.add (q2 * 5)).block ((q1.add (q2 * 5)).off + 4) none)).getD (Value.tuple (Array.mk [])))] = [v' (Value.int IntKind.i64 (v' ((q0.cell? ((q1.add (q2 * 5)).add 0)).getD (Value.tuple (Array.mk [])))).intOf),v' (Value.int IntKind.i64 (v' ((q0.cell? (Addr.mk (q1.add (q2 * 5)).block ((q1.add (q2 * 5)).off + 1) none)).getD (Value.tuple (Array.mk [])))).intOf),v' (Value.string (v' ((q0.cell? (Addr.mk (q1.add (q2 * 5)).block ((q1.add (q2 * 5)).off + 2) none)).getD (Value.tuple (Array.mk [])))).strOf),v' ((q0.cell? (Addr.mk (q1.add (q2 * 5)).block ((q1.add (q2 * 5)).off + 3) none)).getD (Value.tuple (Array.mk []))),v' ((q0.cell? (Addr.mk (q1.add (q2 * 5)).block ((q1.add (q2 * 5)).off + 4) none)).getD (Value.tuple (Array.mk [])))])).a (f' (Wk (AV.agg [v' (Value.int IntKind.i64 (v' ((q0.cell? ((q1.add (q2 * 5)).add 0)).getD (Value.tuple (Array.mk [])))).intOf),v' (Value.int IntKind.i64 (v' ((q0.cell? (Addr.mk (q1.add (q2 * 5)).block ((q1.add (q2 * 5)).off + 1) none)).getD (Value.tuple (Array.mk [])))).intOf),v' (Value.string (v' ((q0.cell? (Addr.mk (q1.add (q2 * 5)).block ((q1.add (q2 * 5)).off + 2) none)).getD (Value.tuple (Array.mk [])))).strOf),v' ((q0.cell? (Addr.mk (q1.add (q2 * 5)).block ((q1.add (q2 * 5)).off + 3) none)).getD (Value.tuple (Array.mk []))),v' ((q0.cell? (Addr.mk (q1.add (q2 * 5)).block ((q1.add (q2 * 5)).off + 4) none)).getD (Value.tuple (Array.mk [])))]) (AV.agg [z' q3.k,z' q3.n,s' q3.t,v' (sl' q3.la q3.ll q3.lc),v' (sl' q3.na q3.nl q3.nc)])))))
theorem jP' (W : World) (r r' x x' : Rj) (a b : Addr) (i : Nat) (F : HP) : BU' [(fSa, cSa x x')] (hSl i x x') [] W fSa (AA' fSa 9) (tms 0 81 (aSl i)) (oSa { r with la := some a } { r' with la := some b }) [1000, 1001] [2, 3, 6] F = VT.leaf (AX.normal,[pt' 1000 0,pt' 1001 0,i' (i + 1)],81) [some (ce' [z' r.k,z' r.n,s' r.t,v' (sl' (some a) r.ll r.lc),v' (sl' r.na r.nl r.nc)] 52),some (ce' [z' r'.k,z' r'.n,s' r'.t,v' (sl' (some b) r'.ll r'.lc),v' (sl' r'.na r'.nl r'.nc)] 52)] 1100 (k40'.a ((wb' (decide (o' i < ↑r.ll)) j').a (k40'.a ((f' (i.blt r.ll = true)).a ((k147' W a i x).a (k40'.a ((f' (i.blt r'.ll = true)).a ((k147' W b i x').a (((Cnd.p True).a (f' (VW [AV.agg [z' x.k,z' x.n,s' x.t,v' (sl' x.la x.ll x.lc),v' (sl' x.na x.nl x.nc)],AV.agg [z' x'.k,z' x'.n,s' x'.t,v' (sl' x'.la x'.ll x'.lc),v' (sl' x'.na x'.nl x'.nc)]] [AV.agg [z' x.k,z' x.n,s' x.t,v' (sl' x.la x.ll x.lc),v' (sl' x.na x.nl x.nc)],AV.agg [z' x'.k,z' x'.n,s' x'.t,v' (sl' x'.la x'.ll x'.lc),v' (sl' x'.na x'.nl x'.nc)]]))).a (k78'.a ((k59' i).a k1'))))))))))) := χ
theorem jQ' (W : World) (r r' : Rj) (F : HP) : BU' [] (AD' [hf' fSa 9 4]) [] W fSa (AA' fSa 9) (tms 0 81 (aSl r.ll)) (oSa r r') [1000, 1001] [2, 3, 6] F = VT.leaf (AX.exit 2,[pt' 1000 0,pt' 1001 0,i' r.ll],81) [some (ce' [z' r.k,z' r.n,s' r.t,v' (sl' r.la r.ll r.lc),v' (sl' r.na r.nl r.nc)] 52),some (ce' [z' r'.k,z' r'.n,s' r'.t,v' (sl' r'.la r'.ll r'.lc),v' (sl' r'.na r'.nl r'.nc)] 52)] 1100 (k40'.a ((wb' (decide (o' r.ll < ↑r.ll)) g').a k1')) := χ
def gSaP (tmps : List AV) : AP (Nat × Nat) := match getL tmps 2 with
 | .ptr a _ => match getL tmps 3 with
  | .ptr b _ => .ret (a, b)
  | _ => .fail "same"
 | _ => .fail "same"
def nmSa (a b : Nat) : Nat -> Nat := fun k => match Nat.beq k 1000 with
 | true => a
 | false => b
def lSn (r r' : Rj) : List AV -> AP (AX × List AV) := mkL gSaP (fun _ => True) (fun q => nmSa q.1 q.2) (fun _ => tms 0 81 (aSn 0)) (fun _ => oSa r r') (fun _ => .leaf (.exit 0) (tms 0 81 [(2, .ptr 1000 0), (3, .ptr 1001 0)]) (oSa r r'))
def lSl (r r' : Rj) : List AV -> AP (AX × List AV) := mkL gSaP (fun _ => True) (fun q => nmSa q.1 q.2) (fun _ => tms 0 81 (aSl 0)) (fun _ => oSa r r') (fun _ => .leaf (.exit 2) (tms 0 81 [(2, .ptr 1000 0), (3, .ptr 1001 0)]) (oSa r r'))
def hSaF : AX' := AD' [hf' fSa 1 4, hf' fSa 1 10, hf' fSa 1 17, hf' fSa 1 26, hf' fSa 1 35]
abbrev k148' (q0 : Rj) : Cnd := (ow' (ce' [z' q0.k,z' q0.n,s' q0.t,v' (sl' q0.la q0.ll q0.lc),v' (sl' q0.na q0.nl q0.nc)] 52))
abbrev UT' (z : Cnd) : Cnd := ((fe' true).a ((fe' true).a z))
abbrev k150' (q0 : Rj) : Cnd := (ee' (s' q0.t))
abbrev k151' (q0 : Rj) : Cnd := (ee' (z' q0.n))
abbrev k152' (q0 : Rj) : Cnd := (ee' (z' q0.k))
theorem oSa_eq (W : World) (r r' : Rj) (F : HP) : wRun [] hSaF [(fSa, 4, AA' fSa 4, lSn r r'), (fSa, 9, AA' fSa 9, lSl r r')] W fSa [aggJ r, aggJ r'] [] [] F = VT.leaf (b' true) [] 1106 ((k152' r).a ((k152' r').a ((wb' (r.k != r'.k) g').a ((k151' r).a ((k151' r').a ((wb' (r.n != r'.n) g').a ((k150' r).a ((k150' r').a ((f' (Wk (v' (Value.bool !r.t.toList == r'.t.toList)) g')).a (UT' ((wb' ((↑r.ll : Int) != ↑r'.ll) g').a (UT' ((wb' ((↑r.nl : Int) != ↑r'.nl) g').a ((p' ((fSa,4,AA' fSa 4,lSn r r').snd.snd.fst = (fSa,4,AA' fSa 4,lSn r r').snd.snd.fst)).a (k13'.a ((p' (VW (AV.agg [z' r.k,z' r.n,s' r.t,v' (sl' r.la r.ll r.lc),v' (sl' r.na r.nl r.nc)]::AV.agg [z' r'.k,z' r'.n,s' r'.t,v' (sl' r'.la r'.ll r'.lc),v' (sl' r'.na r'.nl r'.nc)]::pt' 1100 0::pt' 1101 0::b' false::i' 0::u'::pt' 1100 0::z' r.k::pt' 1101 0::z' r'.k::g'::g'::pt' 1100 1::z' r.n::pt' 1101 1::z' r'.n::g'::g'::g'::pt' 1100 2::s' r.t::pt' 1101 2::s' r'.t::g'::g'::g'::pt' 1100 3::v' (sl' r.la r.ll r.lc)::z' ↑r.ll::pt' 1101 3::v' (sl' r'.la r'.ll r'.lc)::z' ↑r'.ll::g'::g'::g'::pt' 1100 4::v' (sl' r.na r.nl r.nc)::z' ↑r.nl::pt' 1101 4::v' (sl' r'.na r'.nl r'.nc)::z' ↑r'.nl::g'::g'::ru16 (ru16 (ru4 (u'::[])))) (a'::a'::pt' 1100 0::pt' 1101 0::a'::i' 0::ra16 (ra16 (ra16 (ra16 (ra8 (a'::a'::a'::[])))))))).a ((k148' r).a ((k148' r').a ((p' ((fSa,9,AA' fSa 9,lSl r r').snd.snd.fst = (fSa,9,AA' fSa 9,lSl r r').snd.snd.fst)).a (k13'.a ((vw' (a'::a'::pt' 1102 0::pt' 1103 0::a'::a'::i' 0::ra16 (ra16 (ra16 (ra16 (ra8 (a'::a'::[]))))))).a ((k148' r).a ((k148' r').a k1'))))))))))))))))))))))) := χ
end
theorem ltF' : decide (o' n < (n : Int)) = false := decide_eq_false (by simp only [Z0]; omega)
theorem ltT' {j : Nat} (h : j < n) : decide (o' j < (n : Int)) = true := decide_eq_true (by simp only [Z0]; omega)
theorem c5 {C : Mem} {A : Addr} (h : IX' C A r.cells) : C (A.add 0) = some (.int .i64 r.k) /\ C (Addr.mk A.block (A.off + 1) none) = some (.int .i64 r.n) /\ C (Addr.mk A.block (A.off + 2) none) = some (.string r.t) /\ C (Addr.mk A.block (A.off + 3) none) = some (.slice r.la r.ll r.lc) /\ C (Addr.mk A.block (A.off + 4) none) = some (.slice r.na r.nl r.nc) :=
 ⟨h 0 _ rfl, h 1 _ rfl, h 2 _ rfl, h 3 _ rfl, h 4 _ rfl⟩
theorem all5 {W : World} {A : Addr} (h : IX' W.cell? A r.cells) : ([0, 1, 2, 3, 4].all fun j => (W.cell? (A.add j)).isSome) = true := by
 have e0 : W.cell? (A.add 0) = some _ := h 0 _ rfl; have e1 : W.cell? (A.add 1) = some _ := h 1 _ rfl; have e2 : W.cell? (A.add 2) = some _ := h 2 _ rfl; have e3 : W.cell? (A.add 3) = some _ := h 3 _ rfl; have e4 : W.cell? (A.add 4) = some _ := h 4 _ rfl; simp only [List.all_cons, List.all_nil, e0, e1, e2, e3, e4, Bool.and_true, Option.isSome_some]
theorem LT' {x0 x1 : Int} {x2 : Δ} {x3 x4 : Value} (h0 : x0 = r.k) (h1 : x1 = r.n) (h2 : x2 = r.t) (h3 : x3 = .slice r.la r.ll r.lc) (h4 : x4 = .slice r.na r.nl r.nc) : Wk (.agg [.v (.int .i64 x0), .v (.int .i64 x1), .v (.string x2), .v x3, .v x4]) (aggJ r) := by
 subst h0 h1 h2 h3 h4; exact Ya
theorem ES' {α : Type} {l : List α} {i : Nat} (h : i < l.length) : ∃ x, l[i]? = some x := ⟨_, List.getElem?_eq_getElem h⟩
theorem LO' {k : Nat} (h : n * k <= big) (hk : 0 < k) : n <= 140737488351232 := Nat.le_trans (Nat.le_mul_of_pos_right n hk) h
theorem cSa_ok {W : World} {r' : Rj} (h : Tri Θ W fSa [aggJ r, aggJ r'] [] (bv true) []) (F : HP) (hF : AH' W F) : C1OK Θ F fSa (cSa r r') :=
 BF' hF (fun _ => bv true) (fun _ => RO.ret _) (fun _ => rfl) (fun _ _ => h) fun _ => ⟨rfl, rfl, ⟨⟨Ye, Ye, Ye, Ye, Ye, Ye⟩, ⟨Ye, Ye, Ye, Ye, Ye, Ye⟩, Ye⟩, A4', ⟨Ye, Ye⟩, A4'⟩
theorem Z1' (args : List AV) : RO (gSaP args) := by
 unfold gSaP; split
 ·split
  ·exact RO.ret _
  ·exact RO.fail _
 ·exact RO.fail _
theorem T0' (K : Nat -> Bool) (r r' : Rj) : ∀ x ∈ oSa r r', x.2.cl K := A2' ⟨Ye, Ye, Ye, Ye, Ye, Ye⟩ (A2' ⟨Ye, Ye, Ye, Ye, Ye, Ye⟩ A4')
theorem two_l {F : HP} {f g : FuncId} {i j : Nat} {b c : Code} {p q : List AV -> AP (AX × List AV)} (h : L1OK Θ F b p) (h2 : L1OK Θ F c q) : ∀ x ∈ ([(f, i, b, p), (g, j, c, q)] : LcL), L1OK Θ F x.2.2.1 x.2.2.2 := fun x hx => by
 rcases List.mem_cons.1 hx with rfl | hx
 ·exact h
 ·simp only [List.mem_singleton] at hx; subst hx; exact h2
theorem iN' (W : World) (d : Nat) (hV : ∀ v r r', JAt W.cell? d v r -> JAt W.cell? d v r' -> Tri Θ W fSa [aggJ r, aggJ r'] [] (bv true) []) (v : Jv) (r r' : Rj) (ha : JAt W.cell? (d + 1) v r) (hb : JAt W.cell? (d + 1) v r') :
  Tri Θ W fSa [aggJ r, aggJ r'] [] (bv true) [] := by
 obtain ⟨⟨i1, i2, i3, i4, i5⟩, al, af⟩ := ha; obtain ⟨⟨j1, j2, j3, j4, j5⟩, bl, bf⟩ := hb; have hlen := LO' al.1 δ; have hlen2 := LO' af.1 δ; have k1 : r.k = r'.k := i1.trans j1.symm; have k2 : r.n = r'.n := i2.trans j2.symm; have k3 : r.t = r'.t := i3.trans j3.symm; have k4 : r'.ll = r.ll := j4.trans i4.symm; have k5 : r'.nl = r.nl := j5.trans i5.symm
 have hnl : LTri Θ W (AA' fSa 4) (tms 0 81 (aSn 0)) (oSa r r') (.exit 0) (tms 0 81 [(2, .ptr 1000 0), (3, .ptr 1001 0)]) (oSa r r') := by
  refine CC' (W := W) (g := fSa) (b := AA' fSa 4) (σ := {j : Nat // j <= r.nl}) 81 (fun j => aSn j.1) (fun j => oSa r r') (.exit 0) [(2, .ptr 1000 0), (3, .ptr 1001 0)] (oSa r r') (fun j => r.nl - j.1) [1000, 1001] [2, 3, 5] (by intro h; cases h) (fun _ => rfl) rfl ?_ ⟨0, Nat.zero_le _⟩; rintro ⟨j, hj⟩; simp only
  by_cases h1 : j < r.nl
  ·obtain ⟨nm, hx⟩ := ES' (l := v.names) (i := j) ω; obtain ⟨a, ea, q1⟩ := af.2 j nm hx; obtain ⟨b, eb, p1⟩ := bf.2 j nm hx
   rw [show j = j * 1 by omega] at q1 p1
   have hw := CH' j ω; have e1 : decide (o' j < (r.nl : Int)) = true := ltT' h1
   have c1 : (!(nm.toList == nm.toList)) = false := by rw [beq_self_eq_true]; rfl
   have h2 : j < r'.nl := ω
   obtain ⟨rk, rn, rt, rla, rll, rlc, rta, rtl, rtc⟩ := r; obtain ⟨rk', rn', rt', rla', rll', rlc', rta', rtl', rtc'⟩ := r'; simp only at ea eb; subst ea eb
   refine ⟨[], hSn j nm, [], fun F hF => noC, fun _ _ => noL, fun F => ?_⟩
   refine Yj (jN' W ⟨rk, rn, rt, rla, rll, rlc, none, rtl, rtc⟩ ⟨rk', rn', rt', rla', rll', rlc', none, rtl', rtc'⟩ nm a b j F) ⟨⟨?_, rfl, .inl ⟨rfl, ⟨j + 1, h1⟩, C9' h1, [(1000, 1000), (1001, 1001)], by kernel_rfl, by kernel_rfl, ⟨Ya, Ya, Ya, Ye⟩, ⟨_, rfl, Yc⟩, ⟨_, rfl, Yc⟩, Ye⟩⟩⟩
   simp only [Cnd.holds, e1, h1, h2, q1, p1, Option.getD_some, Option.isSome_some, Nat.blt_eq, true_and, and_true]; and_intros; all_goals first | (with_reducible exact BA' hw) | exact A0' e1 | exact A0' c1 | exact Kb0'
  ·have hje : j = r.nl := ω
   subst hje
   refine ⟨[], AD' [hf' fSa 4 4], [], fun _ _ => noC, fun _ _ => noL, fun F => ?_⟩
   refine Yj (jO' W r r' F) ⟨⟨?_, rfl, .inr ⟨rfl, [(1000, 1000), (1001, 1001)], by kernel_rfl, by kernel_rfl, ⟨Ya, Ya, Ye⟩, ⟨_, rfl, Yc⟩, ⟨_, rfl, Yc⟩, Ye⟩⟩⟩
   simp only [Cnd.holds, and_true, true_and]; exact A0' ltF'
 have hll : LTri Θ W (AA' fSa 9) (tms 0 81 (aSl 0)) (oSa r r') (.exit 2) (tms 0 81 [(2, .ptr 1000 0), (3, .ptr 1001 0)]) (oSa r r') := by
  refine CC' (W := W) (g := fSa) (b := AA' fSa 9) (σ := {j : Nat // j <= r.ll}) 81 (fun j => aSl j.1) (fun j => oSa r r') (.exit 2) [(2, .ptr 1000 0), (3, .ptr 1001 0)] (oSa r r') (fun j => r.ll - j.1) [1000, 1001] [2, 3, 6] (by intro h; cases h) (fun _ => rfl) rfl ?_ ⟨0, Nat.zero_le _⟩; rintro ⟨j, hj⟩; simp only
  by_cases h1 : j < r.ll
  ·obtain ⟨x, hx⟩ := ES' (l := v.list) (i := j) ω; obtain ⟨a, s, ea, q1, q2⟩ := al.2 j x hx; obtain ⟨b, s', eb, p1, p2⟩ := bl.2 j x hx; have hsv := cSa_ok (hV x s s' q2 p2); have aA := all5 q1; have bA := all5 p1; obtain ⟨a1, a2, a3, a4, a5⟩ := c5 q1; obtain ⟨b1, b2, b3, b4, b5⟩ := c5 p1; have hw := CH' j ω; have e1 : decide (o' j < (r.ll : Int)) = true := ltT' h1
   have h2 : j < r'.ll := ω
   obtain ⟨rk, rn, rt, rla, rll, rlc, rta, rtl, rtc⟩ := r; obtain ⟨rk', rn', rt', rla', rll', rlc', rta', rtl', rtc'⟩ := r'; simp only at ea eb; subst ea eb
   refine ⟨[(fSa, cSa s s')], hSl j s s', [], fun F hF => BT' (hsv F hF), fun _ _ => noL, fun F => ?_⟩
   refine Yj (jP' W ⟨rk, rn, rt, none, rll, rlc, rta, rtl, rtc⟩ ⟨rk', rn', rt', none, rll', rlc', rta', rtl', rtc'⟩ s s' a b j F) ⟨⟨?_, rfl, .inl ⟨rfl, ⟨j + 1, h1⟩, C9' h1, [(1000, 1000), (1001, 1001)], by kernel_rfl, by kernel_rfl, ⟨Ya, Ya, Ya, Ye⟩, ⟨_, rfl, Yc⟩, ⟨_, rfl, Yc⟩, Ye⟩⟩⟩
   simp only [Cnd.holds, e1, h1, h2, aA, bA, a1, a2, a3, a4, a5, b1, b2, b3, b4, b5, Option.getD_some, Option.isSome_some, Nat.blt_eq, true_and, and_true]; and_intros; all_goals first | (with_reducible exact BA' hw) | exact A0' e1 | exact A0' rfl | exact LT' rfl rfl rfl rfl rfl | exact Kb0'
  ·have hje : j = r.ll := ω
   subst hje
   refine ⟨[], AD' [hf' fSa 9 4], [], fun _ _ => noC, fun _ _ => noL, fun F => ?_⟩
   refine Yj (jQ' W r r' F) ⟨⟨?_, rfl, .inr ⟨rfl, [(1000, 1000), (1001, 1001)], by kernel_rfl, by kernel_rfl, ⟨Ya, Ya, Ye⟩, ⟨_, rfl, Yc⟩, ⟨_, rfl, Yc⟩, Ye⟩⟩⟩
   simp only [Cnd.holds, and_true, true_and]; exact A0' ltF'
 have hl1 : ∀ F, AH' W F -> L1OK Θ F (AA' fSa 4) (lSn r r') := fun F hF =>
  GN' hF Z1' (fun _ _ => hnl) fun _ => by
   simp only [RT.pick]; exact C4' rfl rfl (A2' rfl (A2' rfl (A2' Ye A4'))) (T0' _ _ _) (A2' rfl (A2' rfl A4')) (T0' _ _ _)
 have hl2 : ∀ F, AH' W F -> L1OK Θ F (AA' fSa 9) (lSl r r') := fun F hF =>
  GN' hF Z1' (fun _ _ => hll) fun _ => by
   simp only [RT.pick]; exact C4' rfl rfl (A2' rfl (A2' rfl (A2' Ye A4'))) (T0' _ _ _) (A2' rfl (A2' rfl A4')) (T0' _ _ _)
 refine AN' (con := []) (hints := hSaF) (lc := [(fSa, 4, AA' fSa 4, lSn r r'), (fSa, 9, AA' fSa 9, lSl r r')]) [] rfl (fun F hF => noC) (fun F hF => two_l (hl1 F hF) (hl2 F hF)) fun F => ?_
 refine Yj (oSa_eq W r r' F) ⟨⟨?_, (AJ' (vs' := [bv true]) (H' := []) [] rfl rfl (Yb) trivial).fits rfl⟩⟩
 have c1 : (!(r.t.toList == r'.t.toList)) = false := by rw [k3, beq_self_eq_true]; rfl
 have c2 : (r.k != r'.k) = false := by rw [k1]; exact bne_self_eq_false _
 have c3 : (r.n != r'.n) = false := by rw [k2]; exact bne_self_eq_false _
 have c4 : ((r.ll : Int) != (r'.ll : Int)) = false := by rw [k4]; exact bne_self_eq_false _
 have c5 : ((r.nl : Int) != (r'.nl : Int)) = false := by rw [k5]; exact bne_self_eq_false _
 simp only [Cnd.holds, Nat.blt_eq, true_and, and_true]; and_intros; all_goals first | exact A0' c1 | exact A0' c2 | exact A0' c3 | exact A0' c4 | exact A0' c5 | exact Kb0'
theorem U1' (W : World) : ∀ (d : Nat) (v : Jv) (r r' : Rj), JAt W.cell? d v r -> JAt W.cell? d v r' -> Tri Θ W fSa [aggJ r, aggJ r'] [] (bv true) []
 | 0, _, _, _, h, _ => h.elim
 | d + 1, v, r, r', h, h' => iN' W d (U1' W d) v r r' h h'
end Go.Proofs.YtdphpillcaajpaaDoor.Js
