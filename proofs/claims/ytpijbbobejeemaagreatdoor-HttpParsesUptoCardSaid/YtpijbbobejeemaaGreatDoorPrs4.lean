/- Parts of the proof, merged. -/
import Derived.Test.YtpijbbobejeemaaGreatDoorPrs3
import Derived.Test.YtpijbbobejeemaaGreatDoorEngKit
import Derived.Test.YtpijbbobejeemaaGreatDoorEngXPrs
set_option linter.unusedVariables false
set_option linter.unusedSimpArgs false
set_option maxRecDepth 100000
set_option linter.unusedSectionVars false
namespace Go.Proofs.YtpijbbobejeemaaGreatDoor.Htp
open Go Go.RowKit Eng Kit
def DI' (f : Nat) (q : UInt8 → Bool) (w : World) : Prop := ((List.range 256).all fun c => match GY' ((DW' Tryz.prog (envK Tryz.prog cfg0 w) 1000 f [.v (.int .u8 (Int.ofNat c))]).run true .nil 0 []) with
  | some (.bool n) => n == q (UInt8.ofNat c)
  | _ => false) = true
theorem i6' {f : Nat} {q : UInt8 → Bool} {w : World} (h : DI' f q w) (c : UInt8) : GY' ((DW' Tryz.prog (envK Tryz.prog cfg0 w) 1000 f (vmap [.int .u8 (c.toNat : Int)])).run true .nil 0 []) = some (.bool (q c)) := by
 have h := List.all_eq_true.1 h c.toNat (List.mem_range.2 c.toNat_lt)
 simp only [UInt8.ofNat_toNat] at h
 show GY' ((DW' Tryz.prog (envK Tryz.prog cfg0 w) 1000 f [.v (.int .u8 (Int.ofNat c.toNat))]).run true .nil 0 []) = _
 split at h
 ·rename_i n he
  rw [he, eq_of_beq h]
 ·cases h
theorem W9' {f : Nat} {q : UInt8 → Bool} (h : ∀ w, DI' f q w) (c : UInt8) (w : World) : Calls Tryz.prog f #[.int .u8 (c.toNat : Int)] w fun e w' => e = .returned (.bool (q c)) ∧ Below w.heap.size w w' :=
 P6' (args := [.int .u8 (c.toNat : Int)]) hJ' (by kernel_rfl) (fuel := 1000) (fun w => i6' (h w) c) (fun x hx => by cases hx)
theorem BU' {F : HP} (hF : AE' default F) {f : Nat} {q : UInt8 → Bool} (h : ∀ w, DI' f q w) {x : UInt8} {b : Bool} (hb : q x = b) : C1OK Tryz.prog F f (cW x b) :=
 K8' hF (fun c => [.int .u8 c]) (fun _ => .bool b) ZE' (fun p N => vr_v N _) fun c hc w hw => by
  subst hc hb
  exact W9' h x w
theorem EJ' (σ : Nat → Nat) (k : Nat) : OW (.cells [fnV k] tFun) ((boxF k).ren σ) := o0
theorem HJ' : ∀ args, RO (gAl args) := by
 intro args
 unfold gAl
 split
 ·exact RO.ret _
 ·exact RO.fail _
theorem gB1 (L : List UInt8) (i : Nat) (hi : i < L.length) : ∀ d, (rowV encB L).getD (0 + i * 1) d = byv (L.getD i 0) := aQ' L i hi
theorem DU' {W : World} {f : FuncId} {args : List Value} {y : Value} (h : Tri Tryz.prog W f (vmap args) [] (.v y) []) {w : World} (hw : IS' W w) : Calls Tryz.prog f args.toArray w fun e w' => e = .returned y ∧ Below w.heap.size w w' := by
 refine (h w (HP.old w) (fun _ => none) w args.toArray (fun D w' hF b o hv => MV' w D w' hF b o (hw b o hv)) (fun _ _ _ => rfl) (MO' w) (VRs.vmap args)).mono ?_
 rintro e w' ⟨z, rfl, N', _, _, r, hv⟩
 have hy : z = y := VR_v.1 (AI'.1 hv).1
 subst hy
 exact ⟨rfl, r.old_below⟩
theorem E2' {q : UInt8 → Bool} {L : List UInt8} (h : L.all q = false) : ∃ i, i < L.length ∧ q (L.getD i 0) = false ∧ ∀ j, j < i → q (L.getD j 0) = true := by
 induction L with
 | nil => cases h
 | cons c l ih =>
  cases hc : q c with
  | false => exact ⟨0, by simp, hc, fun j hj => absurd hj (Nat.not_lt_zero _)⟩
  | true =>
   rw [List.all_cons, hc, Bool.true_and] at h
   obtain ⟨i, h1, h2, h3⟩ := ih h
   refine ⟨i + 1, by simp; omega, h2, fun j hj => ?_⟩
   cases j with
   | zero => exact hc
   | succ j => exact h3 j (by omega)
theorem IP' {q : UInt8 → Bool} {L : List UInt8} (h : L.all q = true) (j : Nat) (hj : j < L.length) : q (L.getD j 0) = true := by
 have := List.all_eq_true.1 h L[j] (List.getElem_mem hj)
 simpa [List.getD_eq_getElem?_getD, List.getElem?_eq_getElem hj] using this
theorem ge0 (i : Nat) : decide (Int.ofNat i ≥ Int.ofNat 0) = true := decide_eq_true (by simp only [Z0]; omega)
def qL (c : UInt8) : Bool := 65 ≤ c && c ≤ 90
theorem askL (w : World) : DI' fQl qL w := by unfold DI'; kernel_rfl
theorem a6' (L : List UInt8) (hn : L.length ≤ 4000000) (h : L.all qL = true) :
  LTri Tryz.prog default (A4' fIxF 2) (tms 0 19 (aAl L.length 0)) [(1000, boxF fQl), (1001, rB1 L)] (.exit 0) (tms 0 19 []) [] := by
 refine AS' (W := default) (g := fIxF) (b := A4' fIxF 2) (σ := {i : Nat // i ≤ L.length}) 19 (fun i => aAl L.length i.1) (fun _ => [(1000, boxF fQl), (1001, rB1 L)]) (.exit 0) [] [] (fun i => L.length - i.1) [1000, 1001] [0, 1, 4, 7, 8] (by intro h; cases h) (fun _ => rfl) rfl ?_ ⟨0, Nat.zero_le _⟩
 rintro ⟨i, hi⟩
 simp only
 by_cases h1 : i < L.length
 ·have g0 := gB1 L i h1
  have g1 := LE' L i h1
  have e1 := ltTN h1
  have hw := AO' i (by omega)
  have hq := IP' h i h1
  generalize L.getD i 0 = x at *
  refine ⟨[(fQl, cW x true)], hAl i x false, [], fun F hF => AP' (BU' hF askL hq), fun _ _ => noL, fun F => ?_⟩
  refine cv (RV' L L.length i x F) ⟨⟨?_, rfl, .inl ⟨rfl, ⟨i + 1, h1⟩, AR' h1, [(1000, 1000), (1001, 1001)], by kernel_rfl, by kernel_rfl, ⟨w0, w0, w0, w0, t0⟩, ⟨_, rfl, EJ' _ _⟩, ⟨_, rfl, AJ' rfl rfl⟩, t0⟩⟩⟩
  simp only [Cnd.holds, g0, g1, e1, h1, Nat.blt_eq, true_and, and_true]
  and_intros
  all_goals first
   | (with_reducible exact AG' hw) | (with_reducible first | exact t0 | exact r0 | exact A6' _ | assumption) | exact r0 | ((repeat (first | exact VW.nil | refine c1 ?_ | refine c2 ?_ | refine c3 ?_)); done)
 ·have hke : i = L.length := by omega
  subst hke
  refine ⟨[], AB' [(fIxF, 2, 0, hv (.lit false))], [], fun _ _ => noC, fun _ _ => noL, fun F => ?_⟩
  refine cv (YN' L L.length L.length F) ⟨⟨?_, rfl, .inr ⟨rfl, [], rfl, rfl, t0, t0⟩⟩⟩
  simp only [Cnd.holds, and_true]
  exact A1' (ltFN (n0))
theorem WF' (L : List UInt8) (hn : L.length ≤ 4000000) (k : Nat) (hk : k < L.length) (hbad : qL (L.getD k 0) = false) (hgood : ∀ j, j < k → qL (L.getD j 0) = true) :
  LTri Tryz.prog default (A4' fIxF 2) (tms 0 19 (aAl L.length 0)) [(1000, boxF fQl), (1001, rB1 L)] .ret (tms 0 19 [(4, iv (Int.ofNat k))]) [] := by
 refine AS' (W := default) (g := fIxF) (b := A4' fIxF 2) (σ := {i : Nat // i ≤ k}) 19 (fun i => aAl L.length i.1) (fun _ => [(1000, boxF fQl), (1001, rB1 L)]) .ret [(4, iv (Int.ofNat k))] [] (fun i => L.length - i.1) [1000, 1001] [0, 1, 4, 7, 8] (by intro h; cases h) (fun _ => rfl) rfl ?_ ⟨0, Nat.zero_le _⟩
 rintro ⟨i, hi⟩
 simp only
 have h1 : i < L.length := by omega
 have g0 := gB1 L i h1
 have g1 := LE' L i h1
 have e1 := ltTN h1
 have hw := AO' i (by omega)
 by_cases h2 : i < k
 ·have hq := hgood i h2
  generalize L.getD i 0 = x at *
  refine ⟨[(fQl, cW x true)], hAl i x false, [], fun F hF => AP' (BU' hF askL hq), fun _ _ => noL, fun F => ?_⟩
  refine cv (RV' L L.length i x F) ⟨⟨?_, rfl, .inl ⟨rfl, ⟨i + 1, h2⟩, AR' h1, [(1000, 1000), (1001, 1001)], by kernel_rfl, by kernel_rfl, ⟨w0, w0, w0, w0, t0⟩, ⟨_, rfl, EJ' _ _⟩, ⟨_, rfl, AJ' rfl rfl⟩, t0⟩⟩⟩
  simp only [Cnd.holds, g0, g1, e1, h1, Nat.blt_eq, true_and, and_true]
  and_intros
  all_goals first
   | (with_reducible exact AG' hw) | (with_reducible first | exact t0 | exact r0 | exact A6' _ | assumption) | exact r0 | ((repeat (first | exact VW.nil | refine c1 ?_ | refine c2 ?_ | refine c3 ?_)); done)
 ·have hke : i = k := by omega
  subst hke
  generalize L.getD i 0 = x at *
  refine ⟨[(fQl, cW x false)], hAl i x true, [], fun F hF => AP' (BU' hF askL hbad), fun _ _ => noL, fun F => ?_⟩
  refine cv (YL' L L.length i x F) ⟨⟨?_, rfl, .inr ⟨rfl, [], rfl, rfl, ⟨w0, t0⟩, t0⟩⟩⟩
  simp only [Cnd.holds, g0, g1, e1, h1, Nat.blt_eq, true_and, and_true]
  and_intros
  all_goals first | (with_reducible first | exact t0 | exact r0 | exact A6' _ | assumption) | exact r0 | ((repeat (first | exact VW.nil | refine c1 ?_ | refine c2 ?_ | refine c3 ?_)); done)
theorem a1' (s : ByteArray) (hs : s.size ≤ 4000000) : Tri Tryz.prog default fAll [sv s, fnV fQl] [] (bv (s.data.toList.all qL)) [] := by
 have hl : s.data.toList.length = s.size := rfl
 cases h : s.data.toList.all qL with
 | true =>
  refine AA' (con := []) (hints := hAt s.data.toList false) (lc := [(fIxF, 2, A4' fIxF 2, lAl s.data.toList fQl s.size)]) [] rfl (fun _ _ => noC) (fun F hF => BE' (AW' hF HJ' (fun _ _ => by
   have := a6' s.data.toList (by omega) h
   rw [hl] at this
   simp only [RT.pick]
   exact this) fun _ => by
   simp only [RT.pick]
   exact AQ' rfl rfl (A0' rfl (A0' ⟨t0, rfl, t0⟩ (A0' t0 (A0' t0 A3')))) (A0' ⟨t0, t0⟩ (A0' (AM' _ _) A3')) A3' A3')) fun F => ?_
  refine cv (YK' s F) ⟨⟨?_, (AF' (vs' := [bv true]) (H' := []) [] rfl rfl (v0) trivial).fits rfl⟩⟩
  simp only [Cnd.holds, hl, Nat.blt_eq, true_and, and_true]
  and_intros
  all_goals first
   | exact BB' (B1' _).symm
   | (rw [A2']; exact o0) | (with_reducible first | exact t0 | exact r0 | exact A6' _ | assumption) | exact r0 | ((repeat (first | exact VW.nil | refine c1 ?_ | refine c2 ?_ | refine c3 ?_)); done)
 | false =>
  obtain ⟨i, h1, h2, h3⟩ := E2' h
  refine AA' (con := []) (hints := hAt s.data.toList true) (lc := [(fIxF, 2, A4' fIxF 2, lAlx s.data.toList fQl s.size i)]) [] rfl (fun _ _ => noC) (fun F hF => BE' (AW' hF HJ' (fun _ _ => by
   have := WF' s.data.toList (by omega) i h1 h2 h3
   rw [hl] at this
   simp only [RT.pick]
   exact this) fun _ => by
   simp only [RT.pick]
   exact AQ' rfl rfl (A0' rfl (A0' ⟨t0, rfl, t0⟩ (A0' t0 (A0' t0 A3')))) (A0' ⟨t0, t0⟩ (A0' (AM' _ _) A3')) (A0' t0 A3') A3')) fun F => ?_
  refine cv (YM' s i F) ⟨⟨?_, (AF' (vs' := [bv false]) (H' := []) [] rfl rfl (v0) trivial).fits rfl⟩⟩
  have e3 := ge0 i
  simp only [Cnd.holds, hl, e3, Nat.blt_eq, true_and, and_true]
  and_intros
  all_goals first
   | exact BB' (B1' _).symm
   | (rw [A2']; exact o0) | (with_reducible first | exact t0 | exact r0 | exact A6' _ | assumption) | exact r0 | ((repeat (first | exact VW.nil | refine c1 ?_ | refine c2 ?_ | refine c3 ?_)); done)
def qD (c : UInt8) : Bool := 48 ≤ c && c ≤ 57
theorem askD (w : World) : DI' fQd qD w := by unfold DI'; kernel_rfl
theorem a8' (L : List UInt8) (hn : L.length ≤ 4000000) (h : L.all qD = true) :
  LTri Tryz.prog default (A4' fIxF 2) (tms 0 19 (aAl L.length 0)) [(1000, boxF fQd), (1001, rB1 L)] (.exit 0) (tms 0 19 []) [] := by
 refine AS' (W := default) (g := fIxF) (b := A4' fIxF 2) (σ := {i : Nat // i ≤ L.length}) 19 (fun i => aAl L.length i.1) (fun _ => [(1000, boxF fQd), (1001, rB1 L)]) (.exit 0) [] [] (fun i => L.length - i.1) [1000, 1001] [0, 1, 4, 7, 8] (by intro h; cases h) (fun _ => rfl) rfl ?_ ⟨0, Nat.zero_le _⟩
 rintro ⟨i, hi⟩
 simp only
 by_cases h1 : i < L.length
 ·have g0 := gB1 L i h1
  have g1 := LE' L i h1
  have e1 := ltTN h1
  have hw := AO' i (by omega)
  have hq := IP' h i h1
  generalize L.getD i 0 = x at *
  refine ⟨[(fQd, cW x true)], hAl i x false, [], fun F hF => AP' (BU' hF askD hq), fun _ _ => noL, fun F => ?_⟩
  refine cv (RX' L L.length i x F) ⟨⟨?_, rfl, .inl ⟨rfl, ⟨i + 1, h1⟩, AR' h1, [(1000, 1000), (1001, 1001)], by kernel_rfl, by kernel_rfl, ⟨w0, w0, w0, w0, t0⟩, ⟨_, rfl, EJ' _ _⟩, ⟨_, rfl, AJ' rfl rfl⟩, t0⟩⟩⟩
  simp only [Cnd.holds, g0, g1, e1, h1, Nat.blt_eq, true_and, and_true]
  and_intros
  all_goals first
   | (with_reducible exact AG' hw) | (with_reducible first | exact t0 | exact r0 | exact A6' _ | assumption) | exact r0 | ((repeat (first | exact VW.nil | refine c1 ?_ | refine c2 ?_ | refine c3 ?_)); done)
 ·have hke : i = L.length := by omega
  subst hke
  refine ⟨[], AB' [(fIxF, 2, 0, hv (.lit false))], [], fun _ _ => noC, fun _ _ => noL, fun F => ?_⟩
  refine cv (YV' L L.length L.length F) ⟨⟨?_, rfl, .inr ⟨rfl, [], rfl, rfl, t0, t0⟩⟩⟩
  simp only [Cnd.holds, and_true]
  exact A1' (ltFN (n0))
theorem WH' (L : List UInt8) (hn : L.length ≤ 4000000) (k : Nat) (hk : k < L.length) (hbad : qD (L.getD k 0) = false) (hgood : ∀ j, j < k → qD (L.getD j 0) = true) :
  LTri Tryz.prog default (A4' fIxF 2) (tms 0 19 (aAl L.length 0)) [(1000, boxF fQd), (1001, rB1 L)] .ret (tms 0 19 [(4, iv (Int.ofNat k))]) [] := by
 refine AS' (W := default) (g := fIxF) (b := A4' fIxF 2) (σ := {i : Nat // i ≤ k}) 19 (fun i => aAl L.length i.1) (fun _ => [(1000, boxF fQd), (1001, rB1 L)]) .ret [(4, iv (Int.ofNat k))] [] (fun i => L.length - i.1) [1000, 1001] [0, 1, 4, 7, 8] (by intro h; cases h) (fun _ => rfl) rfl ?_ ⟨0, Nat.zero_le _⟩
 rintro ⟨i, hi⟩
 simp only
 have h1 : i < L.length := by omega
 have g0 := gB1 L i h1
 have g1 := LE' L i h1
 have e1 := ltTN h1
 have hw := AO' i (by omega)
 by_cases h2 : i < k
 ·have hq := hgood i h2
  generalize L.getD i 0 = x at *
  refine ⟨[(fQd, cW x true)], hAl i x false, [], fun F hF => AP' (BU' hF askD hq), fun _ _ => noL, fun F => ?_⟩
  refine cv (RX' L L.length i x F) ⟨⟨?_, rfl, .inl ⟨rfl, ⟨i + 1, h2⟩, AR' h1, [(1000, 1000), (1001, 1001)], by kernel_rfl, by kernel_rfl, ⟨w0, w0, w0, w0, t0⟩, ⟨_, rfl, EJ' _ _⟩, ⟨_, rfl, AJ' rfl rfl⟩, t0⟩⟩⟩
  simp only [Cnd.holds, g0, g1, e1, h1, Nat.blt_eq, true_and, and_true]
  and_intros
  all_goals first
   | (with_reducible exact AG' hw) | (with_reducible first | exact t0 | exact r0 | exact A6' _ | assumption) | exact r0 | ((repeat (first | exact VW.nil | refine c1 ?_ | refine c2 ?_ | refine c3 ?_)); done)
 ·have hke : i = k := by omega
  subst hke
  generalize L.getD i 0 = x at *
  refine ⟨[(fQd, cW x false)], hAl i x true, [], fun F hF => AP' (BU' hF askD hbad), fun _ _ => noL, fun F => ?_⟩
  refine cv (YT' L L.length i x F) ⟨⟨?_, rfl, .inr ⟨rfl, [], rfl, rfl, ⟨w0, t0⟩, t0⟩⟩⟩
  simp only [Cnd.holds, g0, g1, e1, h1, Nat.blt_eq, true_and, and_true]
  and_intros
  all_goals first | (with_reducible first | exact t0 | exact r0 | exact A6' _ | assumption) | exact r0 | ((repeat (first | exact VW.nil | refine c1 ?_ | refine c2 ?_ | refine c3 ?_)); done)
theorem a3' (s : ByteArray) (hs : s.size ≤ 4000000) : Tri Tryz.prog default fAll [sv s, fnV fQd] [] (bv (s.data.toList.all qD)) [] := by
 have hl : s.data.toList.length = s.size := rfl
 cases h : s.data.toList.all qD with
 | true =>
  refine AA' (con := []) (hints := hAt s.data.toList false) (lc := [(fIxF, 2, A4' fIxF 2, lAl s.data.toList fQd s.size)]) [] rfl (fun _ _ => noC) (fun F hF => BE' (AW' hF HJ' (fun _ _ => by
   have := a8' s.data.toList (by omega) h
   rw [hl] at this
   simp only [RT.pick]
   exact this) fun _ => by
   simp only [RT.pick]
   exact AQ' rfl rfl (A0' rfl (A0' ⟨t0, rfl, t0⟩ (A0' t0 (A0' t0 A3')))) (A0' ⟨t0, t0⟩ (A0' (AM' _ _) A3')) A3' A3')) fun F => ?_
  refine cv (YS' s F) ⟨⟨?_, (AF' (vs' := [bv true]) (H' := []) [] rfl rfl (v0) trivial).fits rfl⟩⟩
  simp only [Cnd.holds, hl, Nat.blt_eq, true_and, and_true]
  and_intros
  all_goals first
   | exact BB' (B1' _).symm
   | (rw [A2']; exact o0) | (with_reducible first | exact t0 | exact r0 | exact A6' _ | assumption) | exact r0 | ((repeat (first | exact VW.nil | refine c1 ?_ | refine c2 ?_ | refine c3 ?_)); done)
 | false =>
  obtain ⟨i, h1, h2, h3⟩ := E2' h
  refine AA' (con := []) (hints := hAt s.data.toList true) (lc := [(fIxF, 2, A4' fIxF 2, lAlx s.data.toList fQd s.size i)]) [] rfl (fun _ _ => noC) (fun F hF => BE' (AW' hF HJ' (fun _ _ => by
   have := WH' s.data.toList (by omega) i h1 h2 h3
   rw [hl] at this
   simp only [RT.pick]
   exact this) fun _ => by
   simp only [RT.pick]
   exact AQ' rfl rfl (A0' rfl (A0' ⟨t0, rfl, t0⟩ (A0' t0 (A0' t0 A3')))) (A0' ⟨t0, t0⟩ (A0' (AM' _ _) A3')) (A0' t0 A3') A3')) fun F => ?_
  refine cv (YU' s i F) ⟨⟨?_, (AF' (vs' := [bv false]) (H' := []) [] rfl rfl (v0) trivial).fits rfl⟩⟩
  have e3 := ge0 i
  simp only [Cnd.holds, hl, e3, Nat.blt_eq, true_and, and_true]
  and_intros
  all_goals first
   | exact BB' (B1' _).symm
   | (rw [A2']; exact o0) | (with_reducible first | exact t0 | exact r0 | exact A6' _ | assumption) | exact r0 | ((repeat (first | exact VW.nil | refine c1 ?_ | refine c2 ?_ | refine c3 ?_)); done)
def qS (c : UInt8) : Bool := 33 ≤ c && c ≤ 126
theorem askS (w : World) : DI' fQs qS w := by unfold DI'; kernel_rfl
theorem a4' (L : List UInt8) (hn : L.length ≤ 4000000) (h : L.all qS = true) :
  LTri Tryz.prog default (A4' fIxF 2) (tms 0 19 (aAl L.length 0)) [(1000, boxF fQs), (1001, rB1 L)] (.exit 0) (tms 0 19 []) [] := by
 refine AS' (W := default) (g := fIxF) (b := A4' fIxF 2) (σ := {i : Nat // i ≤ L.length}) 19 (fun i => aAl L.length i.1) (fun _ => [(1000, boxF fQs), (1001, rB1 L)]) (.exit 0) [] [] (fun i => L.length - i.1) [1000, 1001] [0, 1, 4, 7, 8] (by intro h; cases h) (fun _ => rfl) rfl ?_ ⟨0, Nat.zero_le _⟩
 rintro ⟨i, hi⟩
 simp only
 by_cases h1 : i < L.length
 ·have g0 := gB1 L i h1
  have g1 := LE' L i h1
  have e1 := ltTN h1
  have hw := AO' i (by omega)
  have hq := IP' h i h1
  generalize L.getD i 0 = x at *
  refine ⟨[(fQs, cW x true)], hAl i x false, [], fun F hF => AP' (BU' hF askS hq), fun _ _ => noL, fun F => ?_⟩
  refine cv (RT' L L.length i x F) ⟨⟨?_, rfl, .inl ⟨rfl, ⟨i + 1, h1⟩, AR' h1, [(1000, 1000), (1001, 1001)], by kernel_rfl, by kernel_rfl, ⟨w0, w0, w0, w0, t0⟩, ⟨_, rfl, EJ' _ _⟩, ⟨_, rfl, AJ' rfl rfl⟩, t0⟩⟩⟩
  simp only [Cnd.holds, g0, g1, e1, h1, Nat.blt_eq, true_and, and_true]
  and_intros
  all_goals first
   | (with_reducible exact AG' hw) | (with_reducible first | exact t0 | exact r0 | exact A6' _ | assumption) | exact r0 | ((repeat (first | exact VW.nil | refine c1 ?_ | refine c2 ?_ | refine c3 ?_)); done)
 ·have hke : i = L.length := by omega
  subst hke
  refine ⟨[], AB' [(fIxF, 2, 0, hv (.lit false))], [], fun _ _ => noC, fun _ _ => noL, fun F => ?_⟩
  refine cv (YF' L L.length L.length F) ⟨⟨?_, rfl, .inr ⟨rfl, [], rfl, rfl, t0, t0⟩⟩⟩
  simp only [Cnd.holds, and_true]
  exact A1' (ltFN (n0))
theorem WD' (L : List UInt8) (hn : L.length ≤ 4000000) (k : Nat) (hk : k < L.length) (hbad : qS (L.getD k 0) = false) (hgood : ∀ j, j < k → qS (L.getD j 0) = true) :
  LTri Tryz.prog default (A4' fIxF 2) (tms 0 19 (aAl L.length 0)) [(1000, boxF fQs), (1001, rB1 L)] .ret (tms 0 19 [(4, iv (Int.ofNat k))]) [] := by
 refine AS' (W := default) (g := fIxF) (b := A4' fIxF 2) (σ := {i : Nat // i ≤ k}) 19 (fun i => aAl L.length i.1) (fun _ => [(1000, boxF fQs), (1001, rB1 L)]) .ret [(4, iv (Int.ofNat k))] [] (fun i => L.length - i.1) [1000, 1001] [0, 1, 4, 7, 8] (by intro h; cases h) (fun _ => rfl) rfl ?_ ⟨0, Nat.zero_le _⟩
 rintro ⟨i, hi⟩
 simp only
 have h1 : i < L.length := by omega
 have g0 := gB1 L i h1
 have g1 := LE' L i h1
 have e1 := ltTN h1
 have hw := AO' i (by omega)
 by_cases h2 : i < k
 ·have hq := hgood i h2
  generalize L.getD i 0 = x at *
  refine ⟨[(fQs, cW x true)], hAl i x false, [], fun F hF => AP' (BU' hF askS hq), fun _ _ => noL, fun F => ?_⟩
  refine cv (RT' L L.length i x F) ⟨⟨?_, rfl, .inl ⟨rfl, ⟨i + 1, h2⟩, AR' h1, [(1000, 1000), (1001, 1001)], by kernel_rfl, by kernel_rfl, ⟨w0, w0, w0, w0, t0⟩, ⟨_, rfl, EJ' _ _⟩, ⟨_, rfl, AJ' rfl rfl⟩, t0⟩⟩⟩
  simp only [Cnd.holds, g0, g1, e1, h1, Nat.blt_eq, true_and, and_true]
  and_intros
  all_goals first
   | (with_reducible exact AG' hw) | (with_reducible first | exact t0 | exact r0 | exact A6' _ | assumption) | exact r0 | ((repeat (first | exact VW.nil | refine c1 ?_ | refine c2 ?_ | refine c3 ?_)); done)
 ·have hke : i = k := by omega
  subst hke
  generalize L.getD i 0 = x at *
  refine ⟨[(fQs, cW x false)], hAl i x true, [], fun F hF => AP' (BU' hF askS hbad), fun _ _ => noL, fun F => ?_⟩
  refine cv (YD' L L.length i x F) ⟨⟨?_, rfl, .inr ⟨rfl, [], rfl, rfl, ⟨w0, t0⟩, t0⟩⟩⟩
  simp only [Cnd.holds, g0, g1, e1, h1, Nat.blt_eq, true_and, and_true]
  and_intros
  all_goals first | (with_reducible first | exact t0 | exact r0 | exact A6' _ | assumption) | exact r0 | ((repeat (first | exact VW.nil | refine c1 ?_ | refine c2 ?_ | refine c3 ?_)); done)
theorem ZZ' (s : ByteArray) (hs : s.size ≤ 4000000) : Tri Tryz.prog default fAll [sv s, fnV fQs] [] (bv (s.data.toList.all qS)) [] := by
 have hl : s.data.toList.length = s.size := rfl
 cases h : s.data.toList.all qS with
 | true =>
  refine AA' (con := []) (hints := hAt s.data.toList false) (lc := [(fIxF, 2, A4' fIxF 2, lAl s.data.toList fQs s.size)]) [] rfl (fun _ _ => noC) (fun F hF => BE' (AW' hF HJ' (fun _ _ => by
   have := a4' s.data.toList (by omega) h
   rw [hl] at this
   simp only [RT.pick]
   exact this) fun _ => by
   simp only [RT.pick]
   exact AQ' rfl rfl (A0' rfl (A0' ⟨t0, rfl, t0⟩ (A0' t0 (A0' t0 A3')))) (A0' ⟨t0, t0⟩ (A0' (AM' _ _) A3')) A3' A3')) fun F => ?_
  refine cv (YC' s F) ⟨⟨?_, (AF' (vs' := [bv true]) (H' := []) [] rfl rfl (v0) trivial).fits rfl⟩⟩
  simp only [Cnd.holds, hl, Nat.blt_eq, true_and, and_true]
  and_intros
  all_goals first
   | exact BB' (B1' _).symm
   | (rw [A2']; exact o0) | (with_reducible first | exact t0 | exact r0 | exact A6' _ | assumption) | exact r0 | ((repeat (first | exact VW.nil | refine c1 ?_ | refine c2 ?_ | refine c3 ?_)); done)
 | false =>
  obtain ⟨i, h1, h2, h3⟩ := E2' h
  refine AA' (con := []) (hints := hAt s.data.toList true) (lc := [(fIxF, 2, A4' fIxF 2, lAlx s.data.toList fQs s.size i)]) [] rfl (fun _ _ => noC) (fun F hF => BE' (AW' hF HJ' (fun _ _ => by
   have := WD' s.data.toList (by omega) i h1 h2 h3
   rw [hl] at this
   simp only [RT.pick]
   exact this) fun _ => by
   simp only [RT.pick]
   exact AQ' rfl rfl (A0' rfl (A0' ⟨t0, rfl, t0⟩ (A0' t0 (A0' t0 A3')))) (A0' ⟨t0, t0⟩ (A0' (AM' _ _) A3')) (A0' t0 A3') A3')) fun F => ?_
  refine cv (YE' s i F) ⟨⟨?_, (AF' (vs' := [bv false]) (H' := []) [] rfl rfl (v0) trivial).fits rfl⟩⟩
  have e3 := ge0 i
  simp only [Cnd.holds, hl, e3, Nat.blt_eq, true_and, and_true]
  and_intros
  all_goals first
   | exact BB' (B1' _).symm
   | (rw [A2']; exact o0) | (with_reducible first | exact t0 | exact r0 | exact A6' _ | assumption) | exact r0 | ((repeat (first | exact VW.nil | refine c1 ?_ | refine c2 ?_ | refine c3 ?_)); done)
def qN (c : UInt8) : Bool := qL c || qD c || (97 ≤ c && c ≤ 122) || c == 45
theorem askN (w : World) : DI' fQn qN w := by unfold DI'; kernel_rfl
theorem a5' (L : List UInt8) (hn : L.length ≤ 4000000) (h : L.all qN = true) :
  LTri Tryz.prog default (A4' fIxF 2) (tms 0 19 (aAl L.length 0)) [(1000, boxF fQn), (1001, rB1 L)] (.exit 0) (tms 0 19 []) [] := by
 refine AS' (W := default) (g := fIxF) (b := A4' fIxF 2) (σ := {i : Nat // i ≤ L.length}) 19 (fun i => aAl L.length i.1) (fun _ => [(1000, boxF fQn), (1001, rB1 L)]) (.exit 0) [] [] (fun i => L.length - i.1) [1000, 1001] [0, 1, 4, 7, 8] (by intro h; cases h) (fun _ => rfl) rfl ?_ ⟨0, Nat.zero_le _⟩
 rintro ⟨i, hi⟩
 simp only
 by_cases h1 : i < L.length
 ·have g0 := gB1 L i h1
  have g1 := LE' L i h1
  have e1 := ltTN h1
  have hw := AO' i (by omega)
  have hq := IP' h i h1
  generalize L.getD i 0 = x at *
  refine ⟨[(fQn, cW x true)], hAl i x false, [], fun F hF => AP' (BU' hF askN hq), fun _ _ => noL, fun F => ?_⟩
  refine cv (RU' L L.length i x F) ⟨⟨?_, rfl, .inl ⟨rfl, ⟨i + 1, h1⟩, AR' h1, [(1000, 1000), (1001, 1001)], by kernel_rfl, by kernel_rfl, ⟨w0, w0, w0, w0, t0⟩, ⟨_, rfl, EJ' _ _⟩, ⟨_, rfl, AJ' rfl rfl⟩, t0⟩⟩⟩
  simp only [Cnd.holds, g0, g1, e1, h1, Nat.blt_eq, true_and, and_true]
  and_intros
  all_goals first
   | (with_reducible exact AG' hw) | (with_reducible first | exact t0 | exact r0 | exact A6' _ | assumption) | exact r0 | ((repeat (first | exact VW.nil | refine c1 ?_ | refine c2 ?_ | refine c3 ?_)); done)
 ·have hke : i = L.length := by omega
  subst hke
  refine ⟨[], AB' [(fIxF, 2, 0, hv (.lit false))], [], fun _ _ => noC, fun _ _ => noL, fun F => ?_⟩
  refine cv (YJ' L L.length L.length F) ⟨⟨?_, rfl, .inr ⟨rfl, [], rfl, rfl, t0, t0⟩⟩⟩
  simp only [Cnd.holds, and_true]
  exact A1' (ltFN (n0))
theorem WE' (L : List UInt8) (hn : L.length ≤ 4000000) (k : Nat) (hk : k < L.length) (hbad : qN (L.getD k 0) = false) (hgood : ∀ j, j < k → qN (L.getD j 0) = true) :
  LTri Tryz.prog default (A4' fIxF 2) (tms 0 19 (aAl L.length 0)) [(1000, boxF fQn), (1001, rB1 L)] .ret (tms 0 19 [(4, iv (Int.ofNat k))]) [] := by
 refine AS' (W := default) (g := fIxF) (b := A4' fIxF 2) (σ := {i : Nat // i ≤ k}) 19 (fun i => aAl L.length i.1) (fun _ => [(1000, boxF fQn), (1001, rB1 L)]) .ret [(4, iv (Int.ofNat k))] [] (fun i => L.length - i.1) [1000, 1001] [0, 1, 4, 7, 8] (by intro h; cases h) (fun _ => rfl) rfl ?_ ⟨0, Nat.zero_le _⟩
 rintro ⟨i, hi⟩
 simp only
 have h1 : i < L.length := by omega
 have g0 := gB1 L i h1
 have g1 := LE' L i h1
 have e1 := ltTN h1
 have hw := AO' i (by omega)
 by_cases h2 : i < k
 ·have hq := hgood i h2
  generalize L.getD i 0 = x at *
  refine ⟨[(fQn, cW x true)], hAl i x false, [], fun F hF => AP' (BU' hF askN hq), fun _ _ => noL, fun F => ?_⟩
  refine cv (RU' L L.length i x F) ⟨⟨?_, rfl, .inl ⟨rfl, ⟨i + 1, h2⟩, AR' h1, [(1000, 1000), (1001, 1001)], by kernel_rfl, by kernel_rfl, ⟨w0, w0, w0, w0, t0⟩, ⟨_, rfl, EJ' _ _⟩, ⟨_, rfl, AJ' rfl rfl⟩, t0⟩⟩⟩
  simp only [Cnd.holds, g0, g1, e1, h1, Nat.blt_eq, true_and, and_true]
  and_intros
  all_goals first
   | (with_reducible exact AG' hw) | (with_reducible first | exact t0 | exact r0 | exact A6' _ | assumption) | exact r0 | ((repeat (first | exact VW.nil | refine c1 ?_ | refine c2 ?_ | refine c3 ?_)); done)
 ·have hke : i = k := by omega
  subst hke
  generalize L.getD i 0 = x at *
  refine ⟨[(fQn, cW x false)], hAl i x true, [], fun F hF => AP' (BU' hF askN hbad), fun _ _ => noL, fun F => ?_⟩
  refine cv (YH' L L.length i x F) ⟨⟨?_, rfl, .inr ⟨rfl, [], rfl, rfl, ⟨w0, t0⟩, t0⟩⟩⟩
  simp only [Cnd.holds, g0, g1, e1, h1, Nat.blt_eq, true_and, and_true]
  and_intros
  all_goals first | (with_reducible first | exact t0 | exact r0 | exact A6' _ | assumption) | exact r0 | ((repeat (first | exact VW.nil | refine c1 ?_ | refine c2 ?_ | refine c3 ?_)); done)
theorem a0' (s : ByteArray) (hs : s.size ≤ 4000000) : Tri Tryz.prog default fAll [sv s, fnV fQn] [] (bv (s.data.toList.all qN)) [] := by
 have hl : s.data.toList.length = s.size := rfl
 cases h : s.data.toList.all qN with
 | true =>
  refine AA' (con := []) (hints := hAt s.data.toList false) (lc := [(fIxF, 2, A4' fIxF 2, lAl s.data.toList fQn s.size)]) [] rfl (fun _ _ => noC) (fun F hF => BE' (AW' hF HJ' (fun _ _ => by
   have := a5' s.data.toList (by omega) h
   rw [hl] at this
   simp only [RT.pick]
   exact this) fun _ => by
   simp only [RT.pick]
   exact AQ' rfl rfl (A0' rfl (A0' ⟨t0, rfl, t0⟩ (A0' t0 (A0' t0 A3')))) (A0' ⟨t0, t0⟩ (A0' (AM' _ _) A3')) A3' A3')) fun F => ?_
  refine cv (YG' s F) ⟨⟨?_, (AF' (vs' := [bv true]) (H' := []) [] rfl rfl (v0) trivial).fits rfl⟩⟩
  simp only [Cnd.holds, hl, Nat.blt_eq, true_and, and_true]
  and_intros
  all_goals first
   | exact BB' (B1' _).symm
   | (rw [A2']; exact o0) | (with_reducible first | exact t0 | exact r0 | exact A6' _ | assumption) | exact r0 | ((repeat (first | exact VW.nil | refine c1 ?_ | refine c2 ?_ | refine c3 ?_)); done)
 | false =>
  obtain ⟨i, h1, h2, h3⟩ := E2' h
  refine AA' (con := []) (hints := hAt s.data.toList true) (lc := [(fIxF, 2, A4' fIxF 2, lAlx s.data.toList fQn s.size i)]) [] rfl (fun _ _ => noC) (fun F hF => BE' (AW' hF HJ' (fun _ _ => by
   have := WE' s.data.toList (by omega) i h1 h2 h3
   rw [hl] at this
   simp only [RT.pick]
   exact this) fun _ => by
   simp only [RT.pick]
   exact AQ' rfl rfl (A0' rfl (A0' ⟨t0, rfl, t0⟩ (A0' t0 (A0' t0 A3')))) (A0' ⟨t0, t0⟩ (A0' (AM' _ _) A3')) (A0' t0 A3') A3')) fun F => ?_
  refine cv (YI' s i F) ⟨⟨?_, (AF' (vs' := [bv false]) (H' := []) [] rfl rfl (v0) trivial).fits rfl⟩⟩
  have e3 := ge0 i
  simp only [Cnd.holds, hl, e3, Nat.blt_eq, true_and, and_true]
  and_intros
  all_goals first
   | exact BB' (B1' _).symm
   | (rw [A2']; exact o0) | (with_reducible first | exact t0 | exact r0 | exact A6' _ | assumption) | exact r0 | ((repeat (first | exact VW.nil | refine c1 ?_ | refine c2 ?_ | refine c3 ?_)); done)
def qH (c : UInt8) : Bool := qS c || c == 32 || c == 9
theorem askH (w : World) : DI' fQh qH w := by unfold DI'; kernel_rfl
theorem a7' (L : List UInt8) (hn : L.length ≤ 4000000) (h : L.all qH = true) :
  LTri Tryz.prog default (A4' fIxF 2) (tms 0 19 (aAl L.length 0)) [(1000, boxF fQh), (1001, rB1 L)] (.exit 0) (tms 0 19 []) [] := by
 refine AS' (W := default) (g := fIxF) (b := A4' fIxF 2) (σ := {i : Nat // i ≤ L.length}) 19 (fun i => aAl L.length i.1) (fun _ => [(1000, boxF fQh), (1001, rB1 L)]) (.exit 0) [] [] (fun i => L.length - i.1) [1000, 1001] [0, 1, 4, 7, 8] (by intro h; cases h) (fun _ => rfl) rfl ?_ ⟨0, Nat.zero_le _⟩
 rintro ⟨i, hi⟩
 simp only
 by_cases h1 : i < L.length
 ·have g0 := gB1 L i h1
  have g1 := LE' L i h1
  have e1 := ltTN h1
  have hw := AO' i (by omega)
  have hq := IP' h i h1
  generalize L.getD i 0 = x at *
  refine ⟨[(fQh, cW x true)], hAl i x false, [], fun F hF => AP' (BU' hF askH hq), fun _ _ => noL, fun F => ?_⟩
  refine cv (RW' L L.length i x F) ⟨⟨?_, rfl, .inl ⟨rfl, ⟨i + 1, h1⟩, AR' h1, [(1000, 1000), (1001, 1001)], by kernel_rfl, by kernel_rfl, ⟨w0, w0, w0, w0, t0⟩, ⟨_, rfl, EJ' _ _⟩, ⟨_, rfl, AJ' rfl rfl⟩, t0⟩⟩⟩
  simp only [Cnd.holds, g0, g1, e1, h1, Nat.blt_eq, true_and, and_true]
  and_intros
  all_goals first
   | (with_reducible exact AG' hw) | (with_reducible first | exact t0 | exact r0 | exact A6' _ | assumption) | exact r0 | ((repeat (first | exact VW.nil | refine c1 ?_ | refine c2 ?_ | refine c3 ?_)); done)
 ·have hke : i = L.length := by omega
  subst hke
  refine ⟨[], AB' [(fIxF, 2, 0, hv (.lit false))], [], fun _ _ => noC, fun _ _ => noL, fun F => ?_⟩
  refine cv (YR' L L.length L.length F) ⟨⟨?_, rfl, .inr ⟨rfl, [], rfl, rfl, t0, t0⟩⟩⟩
  simp only [Cnd.holds, and_true]
  exact A1' (ltFN (n0))
theorem WG' (L : List UInt8) (hn : L.length ≤ 4000000) (k : Nat) (hk : k < L.length) (hbad : qH (L.getD k 0) = false) (hgood : ∀ j, j < k → qH (L.getD j 0) = true) :
  LTri Tryz.prog default (A4' fIxF 2) (tms 0 19 (aAl L.length 0)) [(1000, boxF fQh), (1001, rB1 L)] .ret (tms 0 19 [(4, iv (Int.ofNat k))]) [] := by
 refine AS' (W := default) (g := fIxF) (b := A4' fIxF 2) (σ := {i : Nat // i ≤ k}) 19 (fun i => aAl L.length i.1) (fun _ => [(1000, boxF fQh), (1001, rB1 L)]) .ret [(4, iv (Int.ofNat k))] [] (fun i => L.length - i.1) [1000, 1001] [0, 1, 4, 7, 8] (by intro h; cases h) (fun _ => rfl) rfl ?_ ⟨0, Nat.zero_le _⟩
 rintro ⟨i, hi⟩
 simp only
 have h1 : i < L.length := by omega
 have g0 := gB1 L i h1
 have g1 := LE' L i h1
 have e1 := ltTN h1
 have hw := AO' i (by omega)
 by_cases h2 : i < k
 ·have hq := hgood i h2
  generalize L.getD i 0 = x at *
  refine ⟨[(fQh, cW x true)], hAl i x false, [], fun F hF => AP' (BU' hF askH hq), fun _ _ => noL, fun F => ?_⟩
  refine cv (RW' L L.length i x F) ⟨⟨?_, rfl, .inl ⟨rfl, ⟨i + 1, h2⟩, AR' h1, [(1000, 1000), (1001, 1001)], by kernel_rfl, by kernel_rfl, ⟨w0, w0, w0, w0, t0⟩, ⟨_, rfl, EJ' _ _⟩, ⟨_, rfl, AJ' rfl rfl⟩, t0⟩⟩⟩
  simp only [Cnd.holds, g0, g1, e1, h1, Nat.blt_eq, true_and, and_true]
  and_intros
  all_goals first
   | (with_reducible exact AG' hw) | (with_reducible first | exact t0 | exact r0 | exact A6' _ | assumption) | exact r0 | ((repeat (first | exact VW.nil | refine c1 ?_ | refine c2 ?_ | refine c3 ?_)); done)
 ·have hke : i = k := by omega
  subst hke
  generalize L.getD i 0 = x at *
  refine ⟨[(fQh, cW x false)], hAl i x true, [], fun F hF => AP' (BU' hF askH hbad), fun _ _ => noL, fun F => ?_⟩
  refine cv (YP' L L.length i x F) ⟨⟨?_, rfl, .inr ⟨rfl, [], rfl, rfl, ⟨w0, t0⟩, t0⟩⟩⟩
  simp only [Cnd.holds, g0, g1, e1, h1, Nat.blt_eq, true_and, and_true]
  and_intros
  all_goals first | (with_reducible first | exact t0 | exact r0 | exact A6' _ | assumption) | exact r0 | ((repeat (first | exact VW.nil | refine c1 ?_ | refine c2 ?_ | refine c3 ?_)); done)
theorem a2' (s : ByteArray) (hs : s.size ≤ 4000000) : Tri Tryz.prog default fAll [sv s, fnV fQh] [] (bv (s.data.toList.all qH)) [] := by
 have hl : s.data.toList.length = s.size := rfl
 cases h : s.data.toList.all qH with
 | true =>
  refine AA' (con := []) (hints := hAt s.data.toList false) (lc := [(fIxF, 2, A4' fIxF 2, lAl s.data.toList fQh s.size)]) [] rfl (fun _ _ => noC) (fun F hF => BE' (AW' hF HJ' (fun _ _ => by
   have := a7' s.data.toList (by omega) h
   rw [hl] at this
   simp only [RT.pick]
   exact this) fun _ => by
   simp only [RT.pick]
   exact AQ' rfl rfl (A0' rfl (A0' ⟨t0, rfl, t0⟩ (A0' t0 (A0' t0 A3')))) (A0' ⟨t0, t0⟩ (A0' (AM' _ _) A3')) A3' A3')) fun F => ?_
  refine cv (YO' s F) ⟨⟨?_, (AF' (vs' := [bv true]) (H' := []) [] rfl rfl (v0) trivial).fits rfl⟩⟩
  simp only [Cnd.holds, hl, Nat.blt_eq, true_and, and_true]
  and_intros
  all_goals first
   | exact BB' (B1' _).symm
   | (rw [A2']; exact o0) | (with_reducible first | exact t0 | exact r0 | exact A6' _ | assumption) | exact r0 | ((repeat (first | exact VW.nil | refine c1 ?_ | refine c2 ?_ | refine c3 ?_)); done)
 | false =>
  obtain ⟨i, h1, h2, h3⟩ := E2' h
  refine AA' (con := []) (hints := hAt s.data.toList true) (lc := [(fIxF, 2, A4' fIxF 2, lAlx s.data.toList fQh s.size i)]) [] rfl (fun _ _ => noC) (fun F hF => BE' (AW' hF HJ' (fun _ _ => by
   have := WG' s.data.toList (by omega) i h1 h2 h3
   rw [hl] at this
   simp only [RT.pick]
   exact this) fun _ => by
   simp only [RT.pick]
   exact AQ' rfl rfl (A0' rfl (A0' ⟨t0, rfl, t0⟩ (A0' t0 (A0' t0 A3')))) (A0' ⟨t0, t0⟩ (A0' (AM' _ _) A3')) (A0' t0 A3') A3')) fun F => ?_
  refine cv (YQ' s i F) ⟨⟨?_, (AF' (vs' := [bv false]) (H' := []) [] rfl rfl (v0) trivial).fits rfl⟩⟩
  have e3 := ge0 i
  simp only [Cnd.holds, hl, e3, Nat.blt_eq, true_and, and_true]
  and_intros
  all_goals first
   | exact BB' (B1' _).symm
   | (rw [A2']; exact o0) | (with_reducible first | exact t0 | exact r0 | exact A6' _ | assumption) | exact r0 | ((repeat (first | exact VW.nil | refine c1 ?_ | refine c2 ?_ | refine c3 ?_)); done)
def qOf (k : Nat) : Option (UInt8 → Bool) := if k = fQl then some qL else if k = fQd then some qD else if k = fQs then some qS else if k = fQn then some qN else if k = fQh then some qH else none
def qIn (k : Nat) (s : ByteArray) : Bool := match qOf k with
 | some q => s.data.toList.all q
 | none => false
theorem qIn_d (s : ByteArray) : qIn fQd s = s.data.toList.all qD := rfl
theorem qIn_n (s : ByteArray) : qIn fQn s = s.data.toList.all qN := rfl
theorem qIn_h (s : ByteArray) : qIn fQh s = s.data.toList.all qH := rfl
def Five (k : Nat) : Prop := k = fQl ∨ k = fQd ∨ k = fQs ∨ k = fQn ∨ k = fQh
def gAq : List AV → Option (ByteArray × Nat)
 | [.v (.string s), .v (.func (.func k) ⟨[]⟩ ⟨[]⟩)] => some (s, k)
 | _ => none
theorem ZF' (A : List AV) (p : ByteArray × Nat) (h : gAq A = some p) : A = vmap [.string p.1, .func (.func p.2) #[] #[]] := by
 unfold gAq at h
 split at h
 ·cases h; rfl
 ·cases h
noncomputable def cAll : List AV → Option (AP AV) := vC gAq (fun p => Five p.2 ∧ p.1.size ≤ 4000000) (fun p => bv (qIn p.2 p.1))
theorem BT' {W : World} {F : HP} (hF : AE' W F) : C1OK Tryz.prog F fAll cAll :=
 K8' hF (fun p => [.string p.1, .func (.func p.2) #[] #[]]) (fun p => .bool (qIn p.2 p.1)) ZF' (fun p N => vr_v N _) fun p hp w hw => by
  obtain ⟨s, k⟩ := p
  obtain ⟨h1, h2⟩ := hp
  have nw : IS' default w := fun b o h => by cases h
  rcases h1 with rfl | rfl | rfl | rfl | rfl
  ·exact DU' (a1' s h2) nw
  ·exact DU' (a3' s h2) nw
  ·exact DU' (ZZ' s h2) nw
  ·exact DU' (a0' s h2) nw
  ·exact DU' (a2' s h2) nw
noncomputable section
abbrev Hds : Type := List (ByteArray × ByteArray)
def encP (p : ByteArray × ByteArray) : List Value := [.string p.1, .string p.2]
abbrev tPr : TypeId := 2 * 39
def rP (L : Hds) : AO := .cells (rowV encP L) tPr
def sP (i n : Nat) : AV := .slice i 0 n 2 (.lo n)
def nilP : AV := .v (.slice none 0 0)
def rqV (m t : ByteArray) (h b : AV) : AV := .agg [sv m, sv t, h, b]
abbrev DE' : Nat := 25
abbrev tPar : TypeId := 2 * 61
def aGt (name : ByteArray) (n i : Nat) : List (Nat × AV) := [(1, sv name), (9, sP 0 n), (10, iv (Int.ofNat n)), (11, iv (Int.ofNat i))]
def hGt (k v : ByteArray) (i : Nat) (b : Bool) : B4' := AB' [(fGet, 2, 0, hv (.lit true)), (fGet, 3, 1, hv (.agg [sv k, sv v])), (fGet, 4, 3, hv (.lit b)), (fGet, 6, 0, hv (iv (Int.ofNat (i + 1))))]
noncomputable section
abbrev k11' (q0 : Nat) (q1 : Hds) (q2 q3 : ByteArray) : Cnd := ((p' ((List.take 2 (List.drop (0 + q0 * 2) (rowV encP q1))).length.beq 2 = true)).a ((p' (List.take 2 (List.drop (0 + q0 * 2) (rowV encP q1)) = [AV.v (Value.string ((List.take 2 (List.drop (0 + q0 * 2) (rowV encP q1))).getD 0 (u')).strOf),AV.v (Value.string ((List.take 2 (List.drop (0 + q0 * 2) (rowV encP q1))).getD 1 (u')).strOf)])).a (f' (Wk (AV.agg [AV.v (Value.string ((List.take 2 (List.drop (0 + q0 * 2) (rowV encP q1))).getD 0 (u')).strOf),AV.v (Value.string ((List.take 2 (List.drop (0 + q0 * 2) (rowV encP q1))).getD 1 (u')).strOf)]) (AV.agg [s' q2,s' q3])))))
abbrev k12' : Cnd := (f' (true = true))
abbrev k13' (q0 : ByteArray) : Cnd := ((p' (true = true)).a (f' (s' q0 = s' q0)))
end
theorem eY' (L : Hds) (name k v : ByteArray) (n i : Nat) (F : HP) : AV' [] (hGt k v i true) [] default fGet (A4' fGet 2) (tms 0 22 (aGt name n i)) [(0, rP L)] [0] [1, 9, 10, 11, 4, 5] F = VT.leaf (AX.ret,[s' name,AV.slice 0 0 n 2 (Cp.lo n),i' n,i' i,s' v,b' true],22) [some (AO.cells (rowV encP L) 78)] 1101 ((k1' i n).a ((k2' i n).a ((k11' i L k v).a (k12'.a ((k13' k).a ((f' (Wk (b' (k.toList == name.toList)) j')).a ((k13' v).a t'))))))) := by kernel_rfl
theorem UI' (L : Hds) (name k v : ByteArray) (n i : Nat) (F : HP) : AV' [] (hGt k v i false) [] default fGet (A4' fGet 2) (tms 0 22 (aGt name n i)) [(0, rP L)] [0] [1, 9, 10, 11, 4, 5] F = VT.leaf (AX.normal,[s' name,AV.slice 0 0 n 2 (Cp.lo n),i' n,i' (i + 1),a',a'],22) [some (AO.cells (rowV encP L) 78)] 1101 ((k1' i n).a ((k2' i n).a ((k11' i L k v).a (k12'.a ((k13' k).a ((f' (Wk (b' (k.toList == name.toList)) g')).a ((k6' i).a t'))))))) := by kernel_rfl
noncomputable section
abbrev k14' (q0 : Nat) : Cnd := (f' (Wk (b' (decide (Int.ofNat q0 < Int.ofNat q0))) g'))
end
theorem eZ' (L : Hds) (name : ByteArray) (n : Nat) (F : HP) : AV' [] (AB' [(fGet, 2, 0, hv (.lit false))]) [] default fGet (A4' fGet 2) (tms 0 22 (aGt name n n)) [(0, rP L)] [0] [1, 9, 10, 11, 4, 5] F = VT.leaf (AX.exit 0,[s' name,AV.slice 0 0 n 2 (Cp.lo n),i' n,i' n,a',a'],22) [some (AO.cells (rowV encP L) 78)] 1100 ((k14' n).a t') := by kernel_rfl
def gG0 : List AV → AP Unit := fun _ => .ret ()
def lGt (L : Hds) (name : ByteArray) (n : Nat) : List AV → AP (AX × List AV) := mkL gG0 (fun _ => True) (fun _ k => k) (fun _ => tms 0 22 (aGt name n 0)) (fun _ => [(0, rP L)]) (fun _ => .leaf (.exit 0) (tms 0 22 []) [(0, rP L)])
def lGtx (L : Hds) (name v : ByteArray) (n : Nat) : List AV → AP (AX × List AV) := mkL gG0 (fun _ => True) (fun _ k => k) (fun _ => tms 0 22 (aGt name n 0)) (fun _ => [(0, rP L)]) (fun _ => .leaf .ret (tms 0 22 [(4, sv v), (5, bv true)]) [(0, rP L)])
noncomputable section
abbrev y0' : ByteArray := ByteArray.mk (Array.mk [])
abbrev k15' : Cnd := (p' True)
abbrev k16' (q0 q1 : ByteArray) (q2 : Nat) (q3 : ByteArray) (q4 : Nat) : Cnd := (p' (VW (AV.agg [s' q0,s' q1,AV.slice 0 0 q2 2 (Cp.lo q2),e']::s' q3::AV.ptr q4 0::u'::s' y0'::b' false::u'::u'::AV.ptr q4 2::AV.slice 0 0 q2 2 (Cp.lo q2)::z' ↑q2::i' 0::ru8 (u'::u'::[])) (a'::s' q3::ra4 (a'::a'::a'::AV.slice 0 0 q2 2 (Cp.lo q2)::i' q2::i' 0::ra8 (a'::a'::[])))))
abbrev k17' (q0 : Hds) : Cnd := (p' (OW (AO.cells (rowV encP q0) 78) (AO.cells (AV.rens (fun k => k) (rowV encP q0)) 78)))
end
theorem eX' (L : Hds) (m t name : ByteArray) (n : Nat) (F : HP) : wRun [] BS' [(fGet, 2, A4' fGet 2, lGt L name n)] default fGet [rqV m t (sP 0 n) nilB, sv name] [(0, rP L)] [0] F = VT.leaf (AV.tuple [s' y0',b' false]) [some (AO.cells (AV.rens (sgN (fun k => k) [] 0) (rowV encP L)) 78)] 1101 (k12'.a ((p' ((fGet,2,A4' fGet 2,lGt L name n).snd.snd.fst = (fGet,2,A4' fGet 2,lGt L name n).snd.snd.fst)).a (k15'.a ((k16' m t n name 1100).a ((k17' L).a t'))))) := by kernel_rfl
theorem eW' (L : Hds) (m t name v : ByteArray) (n : Nat) (F : HP) : wRun [] BS' [(fGet, 2, A4' fGet 2, lGtx L name v n)] default fGet [rqV m t (sP 0 n) nilB, sv name] [(0, rP L)] [0] F = VT.leaf (AV.tuple [s' v,b' true]) [some (AO.cells (AV.rens (sgN (fun k => k) [] 0) (rowV encP L)) 78)] 1101 (k12'.a ((p' ((fGet,2,A4' fGet 2,lGtx L name v n).snd.snd.fst = (fGet,2,A4' fGet 2,lGtx L name v n).snd.snd.fst)).a (k15'.a ((k16' m t n name 1100).a ((k17' L).a t'))))) := by kernel_rfl
noncomputable section
abbrev k18' : Cnd := (f' (Wk (b' false) g'))
end
theorem eV' (m t name : ByteArray) (F : HP) : wRun [] (AB' [(fGet, 2, 0, hv (.lit false))]) [] default fGet [rqV m t nilP nilB, sv name] [] [] F = VT.leaf (AV.tuple [s' y0',b' false]) [] 1101 (k12'.a (k18'.a t')) := by kernel_rfl
def pO (i off n : Nat) : AO := .cells [.slice i off n 1 (.lo n)] tPar
def pZ : AO := .cells [nilB] tPar
theorem eT' (L w : List UInt8) (off n : Nat) (F : HP) : wRun [(P0', W3' w crlf)] (AB' [(DE', 1, 6, hv (.lit true))]) [] default DE' [.ptr 0 0] [(0, pO 1 off n), (1, rB1 L)] [0, 1] F = VT.leaf (i' 2) [some (AO.cells [AV.slice 1 off n 1 (Cp.lo n)] 122),some (AO.cells (rowV encB L) 11)] 1101 (k12'.a (((p' ((1 = 1 ∧ 1 = 1) ∧ (List.take n (List.drop off (rowV encB L)) = rowV encB w ∧ w.length = n) ∧ [AV.v (Value.int IntKind.u8 (Int.ofNat 13)),AV.v (Value.int IntKind.u8 (Int.ofNat 10))] = [AV.v (Value.int IntKind.u8 (Int.ofNat 13)),AV.v (Value.int IntKind.u8 (Int.ofNat 10))] ∧ 2 = 2)).a (f' (Wk (b' (Lib.hasPrefix w [13,10])) j'))).a t')) := by kernel_rfl
theorem eU' (W : World) (L w : List UInt8) (off n : Nat) (x : Int) (F : HP) : wRun [(P0', W3' w crlf), (GU', i3' w EI')] (AB' [(DE', 1, 6, hv (.lit false)), (DE', 3, 7, hv (iv x))]) [] W DE' [.ptr 0 0] [(0, pO 1 off n), (1, rB1 L)] [0, 1] F = VT.leaf (z' x) [some (AO.cells [AV.slice 1 off n 1 (Cp.lo n)] 122),some (AO.cells (rowV encB L) 11)] 1102 (k12'.a (((p' ((1 = 1 ∧ 1 = 1) ∧ (List.take n (List.drop off (rowV encB L)) = rowV encB w ∧ w.length = n) ∧ [AV.v (Value.int IntKind.u8 (Int.ofNat 13)),AV.v (Value.int IntKind.u8 (Int.ofNat 10))] = [AV.v (Value.int IntKind.u8 (Int.ofNat 13)),AV.v (Value.int IntKind.u8 (Int.ofNat 10))] ∧ 2 = 2)).a (f' (Wk (b' (Lib.hasPrefix w [13,10])) g'))).a (k12'.a ((f' ((1 = 1 ∧ 1 = 1) ∧ (List.take n (List.drop off (rowV encB L)) = rowV encB w ∧ w.length = n) ∧ [AV.v (Value.int IntKind.u8 (Int.ofNat 13)),AV.v (Value.int IntKind.u8 (Int.ofNat 10)),AV.v (Value.int IntKind.u8 (Int.ofNat 13)),AV.v (Value.int IntKind.u8 (Int.ofNat 10))] = [AV.v (Value.int IntKind.u8 (Int.ofNat 13)),AV.v (Value.int IntKind.u8 (Int.ofNat 10)),AV.v (Value.int IntKind.u8 (Int.ofNat 13)),AV.v (Value.int IntKind.u8 (Int.ofNat 10))] ∧ 4 = 4)).a ((f' (Wk (z' (IntKind.i64.wrap (Lib.index w [13,10,13,10] + Int.ofNat 4))) (z' x))).a t'))))) := by kernel_rfl
theorem eS' (F : HP) : wRun [(P0', W2' crlf), (GU', W5' EI')] (AB' [(DE', 1, 6, hv (.lit false)), (DE', 3, 7, hv (iv 3))]) [] default DE' [.ptr 0 0] [(0, pZ)] [0] F = VT.leaf (i' 3) [some (AO.cells [e'] 122)] 1102 (k12'.a (((p' (1 = 1 ∧ [AV.v (Value.int IntKind.u8 (Int.ofNat 13)),AV.v (Value.int IntKind.u8 (Int.ofNat 10))] = [AV.v (Value.int IntKind.u8 (Int.ofNat 13)),AV.v (Value.int IntKind.u8 (Int.ofNat 10))] ∧ 2 = 2)).a (f' (Wk (b' false) g'))).a (k12'.a ((f' (1 = 1 ∧ [AV.v (Value.int IntKind.u8 (Int.ofNat 13)),AV.v (Value.int IntKind.u8 (Int.ofNat 10)),AV.v (Value.int IntKind.u8 (Int.ofNat 13)),AV.v (Value.int IntKind.u8 (Int.ofNat 10))] = [AV.v (Value.int IntKind.u8 (Int.ofNat 13)),AV.v (Value.int IntKind.u8 (Int.ofNat 10)),AV.v (Value.int IntKind.u8 (Int.ofNat 13)),AV.v (Value.int IntKind.u8 (Int.ofNat 10))] ∧ 4 = 4)).a ((f' (Wk (i' 3) (i' 3))).a t'))))) := by kernel_rfl
end
def pr0 : ByteArray × ByteArray := (nil0, nil0)
theorem EF' (x : ByteArray × ByteArray) : (encP x).length = 2 := rfl
theorem DC' (M : Hds) : (rowV encP M).length = M.length * 2 := DX' (k := 2) EF' M
theorem rP_ren (σ : Nat → Nat) (L : Hds) : (rP L).ren σ = rP L := by simp only [rP, AO.ren, A2']
theorem BQ' {x : List AV} {L : Hds} {e : TypeId} {σ : Nat → Nat} (h : x = rowV encP L) (he : e = tPr) : OW (.cells x e) ((rP L).ren σ) := by rw [rP_ren]; subst h he; exact o0
theorem BN' (K : Nat → Bool) (L : Hds) : (rP L).cl K := K3' _ _
theorem rP_at (L : Hds) (i : Nat) (hi : i < L.length) : List.take 2 (List.drop (0 + i * 2) (rowV encP L)) = vmap (encP (L.getD i pr0)) := by
 have := bN' EF' [] L pr0 i hi
 simpa using this
theorem rP_in (L : Hds) (i : Nat) (hi : i < L.length) : (0 + i * 2 + 2).ble (rowV encP L).length = true := by rw [DC', Nat.ble_eq]; omega
theorem rP_lt (L : Hds) (i : Nat) (hi : i < L.length) : (0 + i * 2).blt (rowV encP L).length = true := by rw [DC', Nat.blt_eq]; omega
def getP (L : Hds) (name : ByteArray) : Option ByteArray := match L with
 | [] => none
 | p :: r => if p.1 = name then some p.2 else getP r name
theorem KX' {name : ByteArray} : ∀ {L : Hds}, getP L name = none → ∀ i, i < L.length → (L.getD i pr0).1 ≠ name
 | [], _, i, hi => absurd hi (Nat.not_lt_zero _)
 | p :: r, h, i, hi => by
  unfold getP at h
  split at h
  ·cases h
  ·rename_i hp
   cases i with
   | zero => exact hp
   | succ i => exact KX' h i (by simpa using hi)
theorem GS' {name v : ByteArray} : ∀ {L : Hds}, getP L name = some v → ∃ i, i < L.length ∧ L.getD i pr0 = (name, v) ∧ ∀ j, j < i → (L.getD j pr0).1 ≠ name
 | [], h => by cases h
 | p :: r, h => by
  unfold getP at h
  split at h
  ·rename_i hp
   refine ⟨0, by simp, ?_, fun j hj => absurd hj (Nat.not_lt_zero _)⟩
   cases h
   obtain ⟨a, b⟩ := p
   simp only at hp
   subst hp
   rfl
  ·rename_i hp
   obtain ⟨i, h1, h2, h3⟩ := GS' h
   refine ⟨i + 1, by simp; omega, h2, fun j hj => ?_⟩
   cases j with
   | zero => exact hp
   | succ j => exact h3 j (by omega)
theorem gY' (L : Hds) (name : ByteArray) (hL : L.length ≤ 4000000) (h : getP L name = none) :
  LTri Tryz.prog default (A4' fGet 2) (tms 0 22 (aGt name L.length 0)) [(0, rP L)] (.exit 0) (tms 0 22 []) [(0, rP L)] := by
 refine AS' (W := default) (g := fGet) (b := A4' fGet 2) (σ := {i : Nat // i ≤ L.length}) 22 (fun i => aGt name L.length i.1) (fun _ => [(0, rP L)]) (.exit 0) [] [(0, rP L)] (fun i => L.length - i.1) [0] [1, 9, 10, 11, 4, 5] (by intro h; cases h) (fun _ => rfl) rfl ?_ ⟨0, Nat.zero_le _⟩
 rintro ⟨i, hi⟩
 simp only
 by_cases h1 : i < L.length
 ·have g0 := rP_at L i h1
  have g1 := rP_lt L i h1
  have g2 := rP_in L i h1
  have e1 := ltTN h1
  have hw := AO' i (by omega)
  have hne := KX' h i h1
  generalize L.getD i pr0 = p at *
  obtain ⟨k, v⟩ := p
  simp only at hne
  have hb : (k.toList == name.toList) = false := by rw [LJ']; exact decide_eq_false hne
  refine ⟨[], hGt k v i false, [], fun F hF => noC, fun _ _ => noL, fun F => ?_⟩
  refine cv (UI' L name k v L.length i F) ⟨⟨?_, rfl, .inl ⟨rfl, ⟨i + 1, h1⟩, AR' h1, [], rfl, rfl, ⟨w0, w0, w0, w0, t0⟩, ⟨_, rfl, BQ' rfl rfl⟩, t0⟩⟩⟩
  simp only [Cnd.holds, g0, g1, g2, e1, h1, hb, hne, sv, AV.strOf, encP, Nat.blt_eq, true_and, and_true]
  and_intros
  all_goals first
   | (with_reducible exact AG' hw) | (with_reducible first | exact t0 | exact r0 | exact A6' _ | assumption) | exact r0 | ((repeat (first | exact VW.nil | refine c1 ?_ | refine c2 ?_ | refine c3 ?_)); done)
 ·have hke : i = L.length := by omega
  subst hke
  refine ⟨[], AB' [(fGet, 2, 0, hv (.lit false))], [], fun _ _ => noC, fun _ _ => noL, fun F => ?_⟩
  refine cv (eZ' L name L.length F) ⟨⟨?_, rfl, .inr ⟨rfl, [], rfl, rfl, t0, ⟨_, rfl, BQ' rfl rfl⟩, t0⟩⟩⟩
  simp only [Cnd.holds, and_true]
  exact A1' (ltFN (n0))
theorem ZD' (L : Hds) (name v : ByteArray) (hL : L.length ≤ 4000000) (h : getP L name = some v) :
  LTri Tryz.prog default (A4' fGet 2) (tms 0 22 (aGt name L.length 0)) [(0, rP L)] .ret (tms 0 22 [(4, sv v), (5, bv true)]) [(0, rP L)] := by
 obtain ⟨q, hq, hv, hgood⟩ := GS' h
 refine AS' (W := default) (g := fGet) (b := A4' fGet 2) (σ := {i : Nat // i ≤ q}) 22 (fun i => aGt name L.length i.1) (fun _ => [(0, rP L)]) .ret [(4, sv v), (5, bv true)] [(0, rP L)] (fun i => L.length - i.1) [0] [1, 9, 10, 11, 4, 5] (by intro h; cases h) (fun _ => rfl) rfl ?_ ⟨0, Nat.zero_le _⟩
 rintro ⟨i, hi⟩
 simp only
 have h1 : i < L.length := by omega
 have g0 := rP_at L i h1
 have g1 := rP_lt L i h1
 have g2 := rP_in L i h1
 have e1 := ltTN h1
 have hw := AO' i (by omega)
 by_cases h2 : i < q
 ·have hne := hgood i h2
  generalize L.getD i pr0 = p at *
  obtain ⟨k, v'⟩ := p
  simp only at hne
  have hb : (k.toList == name.toList) = false := by rw [LJ']; exact decide_eq_false hne
  refine ⟨[], hGt k v' i false, [], fun F hF => noC, fun _ _ => noL, fun F => ?_⟩
  refine cv (UI' L name k v' L.length i F) ⟨⟨?_, rfl, .inl ⟨rfl, ⟨i + 1, h2⟩, AR' h1, [], rfl, rfl, ⟨w0, w0, w0, w0, t0⟩, ⟨_, rfl, BQ' rfl rfl⟩, t0⟩⟩⟩
  simp only [Cnd.holds, g0, g1, g2, e1, h1, hb, hne, sv, AV.strOf, encP, Nat.blt_eq, true_and, and_true]
  and_intros
  all_goals first
   | (with_reducible exact AG' hw) | (with_reducible first | exact t0 | exact r0 | exact A6' _ | assumption) | exact r0 | ((repeat (first | exact VW.nil | refine c1 ?_ | refine c2 ?_ | refine c3 ?_)); done)
 ·have hke : i = q := by omega
  subst hke
  rw [hv] at g0
  have hb : (name.toList == name.toList) = true := by rw [LJ']; exact decide_eq_true rfl
  refine ⟨[], hGt name v i true, [], fun F hF => noC, fun _ _ => noL, fun F => ?_⟩
  refine cv (eY' L name name v L.length i F) ⟨⟨?_, rfl, .inr ⟨rfl, [], rfl, rfl, ⟨w0, w0, t0⟩, ⟨_, rfl, BQ' rfl rfl⟩, t0⟩⟩⟩
  simp only [Cnd.holds, g0, g1, g2, e1, h1, hb, sv, AV.strOf, encP, Nat.blt_eq, true_and, and_true]
  and_intros
  all_goals first | (with_reducible first | exact t0 | exact r0 | exact A6' _ | assumption) | exact r0 | ((repeat (first | exact VW.nil | refine c1 ?_ | refine c2 ?_ | refine c3 ?_)); done)
def gotV : Option ByteArray → AV
 | some v => .tuple [sv v, bv true]
 | none => .tuple [sv nil0, bv false]
theorem VD' : ∀ args, RO (gG0 args) := fun _ => RO.ret _
theorem iD' (L : Hds) (m t name : ByteArray) (hL : L.length ≤ 4000000) : Tri Tryz.prog default fGet [rqV m t (sP 0 L.length) nilB, sv name] [(0, rP L)] (gotV (getP L name)) [(0, rP L)] := by
 cases h : getP L name with
 | none =>
  refine AA' (con := []) (hints := BS') (lc := [(fGet, 2, A4' fGet 2, lGt L name L.length)]) [0] rfl (fun _ _ => noC) (fun F hF => BE' (AW' hF VD' (fun _ _ => by
   simp only [RT.pick]
   exact gY' L name hL h) fun _ => by
   simp only [RT.pick]
   exact AQ' rfl rfl (A0' t0 (A0' rfl (A0' t0 (A0' t0 A3')))) (A0' (BN' _ _) A3') A3' (A0' (BN' _ _) A3'))) fun F => ?_
  refine cv (eX' L m t name L.length F) ⟨⟨?_, (AF' (vs' := [gotV none]) (H' := [(0, rP L)]) [] rfl rfl (v0) ⟨⟨_, rfl, BQ' (by rw [A2']) rfl⟩, t0⟩).fits rfl⟩⟩
  simp only [Cnd.holds, A2', Nat.blt_eq, true_and, and_true]
  and_intros
  all_goals first | (with_reducible first | exact t0 | exact r0 | exact A6' _ | assumption) | exact r0 | ((repeat (first | exact VW.nil | refine c1 ?_ | refine c2 ?_ | refine c3 ?_)); done)
 | some v =>
  refine AA' (con := []) (hints := BS') (lc := [(fGet, 2, A4' fGet 2, lGtx L name v L.length)]) [0] rfl (fun _ _ => noC) (fun F hF => BE' (AW' hF VD' (fun _ _ => by
   simp only [RT.pick]
   exact ZD' L name v hL h) fun _ => by
   simp only [RT.pick]
   exact AQ' rfl rfl (A0' t0 (A0' rfl (A0' t0 (A0' t0 A3')))) (A0' (BN' _ _) A3') (A0' t0 (A0' t0 A3')) (A0' (BN' _ _) A3'))) fun F => ?_
  refine cv (eW' L m t name v L.length F) ⟨⟨?_, (AF' (vs' := [gotV (some v)]) (H' := [(0, rP L)]) [] rfl rfl (v0) ⟨⟨_, rfl, BQ' (by rw [A2']) rfl⟩, t0⟩).fits rfl⟩⟩
  simp only [Cnd.holds, A2', Nat.blt_eq, true_and, and_true]
  and_intros
  all_goals first | (with_reducible first | exact t0 | exact r0 | exact A6' _ | assumption) | exact r0 | ((repeat (first | exact VW.nil | refine c1 ?_ | refine c2 ?_ | refine c3 ?_)); done)
theorem aE' (m t name : ByteArray) : Tri Tryz.prog default fGet [rqV m t nilP nilB, sv name] [] (gotV none) [] := by
 refine AA' (con := []) (hints := AB' [(fGet, 2, 0, hv (.lit false))]) (lc := []) [] rfl (fun _ _ => noC) (fun F hF => noL) fun F => ?_
 refine cv (eV' m t name F) ⟨⟨?_, (AF' (vs' := [gotV none]) (H' := []) [] rfl rfl (v0) trivial).fits rfl⟩⟩
 simp only [Cnd.holds, A2', Nat.blt_eq, true_and, and_true]
 and_intros
 all_goals first | (with_reducible first | exact t0 | exact r0 | exact A6' _ | assumption) | exact r0 | ((repeat (first | exact VW.nil | refine c1 ?_ | refine c2 ?_ | refine c3 ?_)); done)
theorem S4' : ∀ l : List UInt8, Lib.index l EI' = match f4 l with
  | some k => (k : Int)
  | none => -1
 | [] => by simp [Lib.index, f4, EI']
 | b :: l => by
  rw [Lib.index, f4]
  split
  ·rfl
  ·rw [S4' l]
   cases f4 l with
   | none => rfl
   | some k =>
    have hne : ((k : Int) == -1) = false := by
     rw [beq_eq_false_iff_ne]; omega
    simp only [hne, Option.map_some, Bool.false_eq_true, if_false]
    simp
def DP' (w : List UInt8) : Int := match hdN w with
 | some n => (n : Int)
 | none => 3
theorem VB' {w : List UInt8} (h : Lib.hasPrefix w crlf = true) : DP' w = 2 := by
 have h : crlf.isPrefixOf w = true := h
 unfold DP' hdN
 rw [if_pos h]
 rfl
theorem ZA' {w : List UInt8} (h : Lib.hasPrefix w crlf = false) : DP' w = Lib.index w EI' + 4 := by
 have h : crlf.isPrefixOf w = false := h
 unfold DP' hdN
 rw [h, S4']
 cases f4 w with
 | none => rfl
 | some k => simp
theorem ZB' (w : List UInt8) (h : w.length ≤ 4000000) : 2 ≤ DP' w ∧ DP' w ≤ 4000003 := by
 unfold DP'
 cases hn : hdN w with
 | none => simp
 | some n =>
  have := GR' hn
  simp only
  omega
theorem C0' (L : List UInt8) (i : Nat) : List.drop i (rowV encB L) = rowV encB (L.drop i) := by
 rw [B1', B1', vmap, vmap, ← List.map_drop, ← List.map_drop]
theorem BZ' (L : List UInt8) (i : Nat) : List.take i (rowV encB L) = rowV encB (L.take i) := by
 rw [B1', B1', vmap, vmap, ← List.map_take, ← List.map_take]
theorem KI' {L w : List UInt8} {off : Nat} (h : L.drop off = w) : List.take w.length (List.drop off (rowV encB L)) = rowV encB w := by
 rw [C0', h, BZ', List.take_length]
theorem E9' {i off n : Nat} {e : TypeId} {σ : Nat → Nat} (hi : σ i = i) (he : e = tPar) : OW (.cells [.slice i off n 1 (.lo n)] e) ((pO i off n).ren σ) := by
 subst he
 simp only [pO, AO.ren, AV.rens, AV.ren, hi]
 exact o0
theorem aD' {W : World} (hW : LW W) (L w : List UInt8) (off : Nat) (hw : L.drop off = w) (hl : w.length ≤ 4000000) : Tri Tryz.prog W DE' [.ptr 0 0] [(0, pO 1 off w.length), (1, rB1 L)] (iv (DP' w)) [(0, pO 1 off w.length), (1, rB1 L)] := by
 have hr := KI' hw
 cases hp : Lib.hasPrefix w crlf with
 | true =>
  have hp' : Lib.hasPrefix w [13, 10] = true := hp
  rw [VB' hp]
  intro W0 F N w0 vargs hF
  refine AA' (W := default) (con := [(P0', W3' w crlf)]) (hints := AB' [(DE', 1, 6, hv (.lit true))]) (lc := []) [0, 1] rfl (fun F hF => AP' (SH' hF _ _)) (fun F hF => noL) (fun F => ?_) W0 F N w0 vargs (AE'.nothing F)
  refine cv (eT' L w off w.length F) ⟨⟨?_, (AF' (vs' := [iv 2]) (H' := [(0, pO 1 off w.length), (1, rB1 L)]) [] rfl rfl (v0) ⟨⟨_, rfl, E9' rfl rfl⟩, ⟨_, rfl, AJ' rfl rfl⟩, t0⟩).fits rfl⟩⟩
  simp only [Cnd.holds, hr, hp', A2', Nat.blt_eq, true_and, and_true]
  and_intros
  all_goals first | (with_reducible first | exact t0 | exact r0 | exact A6' _ | assumption) | exact r0 | ((repeat (first | exact VW.nil | refine c1 ?_ | refine c2 ?_ | refine c3 ?_)); done)
 | false =>
  have hp' : Lib.hasPrefix w [13, 10] = false := hp
  have hz : IntKind.i64.wrap (Lib.index w [13, 10, 13, 10] + Int.ofNat 4) = DP' w := by
   have h1 := ZA' hp
   have h2 := ZB' w hl
   have h3 : Lib.index w [13, 10, 13, 10] + Int.ofNat 4 = DP' w := h1.symm
   rw [h3]
   exact IntWalk.i64_in _ (by omega)
  refine AA' (con := [(P0', W3' w crlf), (GU', i3' w EI')]) (hints := AB' [(DE', 1, 6, hv (.lit false)), (DE', 3, 7, hv (iv (DP' w)))]) (lc := []) [0, 1] rfl (fun F hF => A5' (SH' hF _ _) (AP' (ZW' hW hF _ _ hl (by decide)))) (fun F hF => noL) fun F => ?_
  refine cv (eU' W L w off w.length (DP' w) F) ⟨⟨?_, (AF' (vs' := [iv (DP' w)]) (H' := [(0, pO 1 off w.length), (1, rB1 L)]) [] rfl rfl (v0) ⟨⟨_, rfl, E9' rfl rfl⟩, ⟨_, rfl, AJ' rfl rfl⟩, t0⟩).fits rfl⟩⟩
  simp only [Cnd.holds, hr, hp', A2', Nat.blt_eq, true_and, and_true]
  and_intros
  all_goals first
   | exact AG' hz | (with_reducible first | exact t0 | exact r0 | exact A6' _ | assumption) | exact r0 | ((repeat (first | exact VW.nil | refine c1 ?_ | refine c2 ?_ | refine c3 ?_)); done)
theorem XM' {e : TypeId} {σ : Nat → Nat} (he : e = tPar) : OW (.cells [.v (.slice none 0 0)] e) (pZ.ren σ) := by
 subst he
 exact o0
theorem WW' : Tri Tryz.prog default DE' [.ptr 0 0] [(0, pZ)] (iv 3) [(0, pZ)] := by
 refine AA' (con := [(P0', W2' crlf), (GU', W5' EI')]) (hints := AB' [(DE', 1, 6, hv (.lit false)), (DE', 3, 7, hv (iv 3))]) (lc := []) [0] rfl (fun F hF => A5' (W1' hF _) (AP' (W4' hF _ (by decide) (by decide)))) (fun F hF => noL) fun F => ?_
 refine cv (eS' F) ⟨⟨?_, (AF' (vs' := [iv 3]) (H' := [(0, pZ)]) [] rfl rfl (v0) ⟨⟨_, rfl, XM' rfl⟩, t0⟩).fits rfl⟩⟩
 have e1 : Lib.hasPrefix [] [13, 10] = false := rfl
 simp only [Cnd.holds, e1, A2', Nat.blt_eq, true_and, and_true]
 and_intros
 all_goals first | (with_reducible first | exact t0 | exact r0 | exact A6' _ | assumption) | exact r0 | ((repeat (first | exact VW.nil | refine c1 ?_ | refine c2 ?_ | refine c3 ?_)); done)
def spB : ByteArray := ⟨#[32]⟩
def slB : ByteArray := ⟨#[47]⟩
def coB : ByteArray := ⟨#[58]⟩
def verB : ByteArray := ⟨#[72, 84, 84, 80, 47, 49, 46, 49]⟩
def wsB : ByteArray := ⟨#[32, 9]⟩
def teB : ByteArray := ⟨#[116, 114, 97, 110, 115, 102, 101, 114, 45, 101, 110, 99, 111, 100, 105, 110, 103]⟩
def clB : ByteArray := ⟨#[99, 111, 110, 116, 101, 110, 116, 45, 108, 101, 110, 103, 116, 104]⟩
def crB : ByteArray := ⟨#[13, 10]⟩
def crB2 : ByteArray := ⟨#[13, 10, 13, 10]⟩
theorem JH' (t : ByteArray) : ∀ (k : Nat) (s x : ByteArray), x ∈ Lib.splitB t 0 k s → x.size ≤ s.size
 | 0, s, x, h => by
  rw [Lib.splitB_zero] at h
  rw [List.mem_singleton.1 h]; exact n0
 | k + 1, s, x, h => by
  unfold Lib.splitB at h
  split at h
  ·rw [List.mem_singleton.1 h]; exact n0
  ·rcases List.mem_cons.1 h with rfl | h
   ·rw [ByteArray.size_extract]; omega
   ·have := JH' t k _ x h
    rw [ByteArray.size_extract] at this
    omega
theorem BP' {s t x : ByteArray} (h : x ∈ splB s t) : x.size ≤ s.size := JH' t _ s x h
theorem CQ' (s t : ByteArray) (h : 1 ≤ t.size) : (splB s t).length ≤ s.size + 1 := by
 unfold splB
 rw [Lib.splitB_all t h 0 _ s rfl]
 have := Lib.countB_le t h s.size s (n0)
 omega
theorem CA' (s t : ByteArray) : (sufB s t).size ≤ s.size := by
 unfold sufB Lib.trimSuffix
 rw [BC']
 split
 ·rw [List.length_take]; exact Nat.le_trans (Nat.min_le_right _ _) (n0)
 ·exact n0
def lnW (a b c : ByteArray) : Option (ByteArray × ByteArray) :=
 if a.size = 0 then none else if 20 < a.size then none else if qIn fQl a = false then none else if GQ' b slB = false then none else if qIn fQs b = false then none else if c = verB then some (a, b) else none
def lnB (s : ByteArray) : Option (ByteArray × ByteArray) := match splB s spB with
 | [a, b, c] => lnW a b c
 | _ => none
def hdrW (L : Hds) (nm vl : ByteArray) (k : Bool) : Option (ByteArray × ByteArray) :=
 if k = false then none else if nm.size = 0 then none else if qIn fQn nm = false then none else if qIn fQh vl = false then none else
 if (getP L (lowB nm)).isSome = true then none else if lowB nm = teB then none else some (lowB nm, BY' vl wsB)
def hdrB (L : Hds) (s : ByteArray) : Option (ByteArray × ByteArray) := hdrW L (cut1 s coB) (cut2 s coB) (cutK s coB)
def C7' : Hds → List ByteArray → Option Hds
 | L, [] => some L
 | L, s :: r => match hdrB L s with
  | none => none
  | some p => C7' (L ++ [p]) r
theorem BI' : ∀ {l : List ByteArray} {L M : Hds}, C7' L l = some M → M.length = L.length + l.length
 | [], L, M, h => by cases h; rfl
 | s :: r, L, M, h => by
  unfold C7' at h
  split at h
  ·cases h
  ·have := BI' h
   rw [this, List.length_append, List.length_cons (a := s), List.length_singleton]; omega
def LK' (v : ByteArray) : Nat := match Lib.atoiAll v.data.toList with
 | .ok z => z.toNat
 | _ => 0
def lenB (L : Hds) : Option Nat := match getP L clB with
 | none => some 0
 | some v => if v.size = 0 then none else if 9 < v.size then none else if qIn fQd v = false then none else some (LK' v)
theorem O9' : ∀ (l : List UInt8) (acc : Nat), l.all qD = true → acc < 10 ^ 9 → (acc + 1) * 10 ^ l.length ≤ 10 ^ 9 → ∃ u, Lib.parseUint10 acc l = .ok u ∧ u < 10 ^ 9
 | [], acc, _, ha, _ => ⟨acc, rfl, ha⟩
 | c :: r, acc, h, ha, hp => by
  rw [List.all_cons, Bool.and_eq_true] at h
  obtain ⟨h1, h2⟩ := h
  have hc : 48 ≤ c.toNat ∧ c.toNat ≤ 57 := by
   unfold qD at h1
   rw [Bool.and_eq_true, decide_eq_true_eq, decide_eq_true_eq] at h1
   exact ⟨h1.1, h1.2⟩
  rw [List.length_cons, Nat.pow_succ] at hp
  have hp1 : 1 ≤ 10 ^ r.length := Nat.pos_of_ne_zero (by simp)
  have hm : (acc * 10 + (c.toNat - 48) + 1) * 10 ^ r.length ≤ 10 ^ 9 := by
   refine Nat.le_trans (Nat.mul_le_mul_right _ (?_ : acc * 10 + (c.toNat - 48) + 1 ≤ (acc + 1) * 10)) ?_
   ·omega
   ·rw [Nat.mul_assoc, Nat.mul_comm 10]; exact hp
  have hm1 : acc * 10 + (c.toNat - 48) + 1 ≤ 10 ^ 9 := Nat.le_trans (Nat.le_mul_of_pos_right _ hp1) hm
  have e9 : (10 : Nat) ^ 9 = 1000000000 := rfl
  rw [e9] at ha hm1
  obtain ⟨u, q1, q2⟩ := O9' r (acc * 10 + (c.toNat - 48)) h2 (by rw [e9]; omega) hm
  refine ⟨u, ?_, q2⟩
  unfold Lib.parseUint10
  rw [if_pos hc, if_neg (by omega), if_neg (by omega)]
  exact q1
theorem QR' (v : ByteArray) (h0 : v.size ≠ 0) (h9 : v.size ≤ 9) (hq : v.data.toList.all qD = true) : ∃ u : Nat, Lib.atoiAll v.data.toList = .ok (u : Int) ∧ u < 1000000000 := by
 have hl : v.data.toList.length = v.size := rfl
 cases h : v.data.toList with
 | nil => rw [h] at hl; simp at hl; omega
 | cons c r =>
  rw [h] at hq hl
  have hc : 48 ≤ c.toNat ∧ c.toNat ≤ 57 := by
   rw [List.all_cons, Bool.and_eq_true] at hq
   have h1 := hq.1
   unfold qD at h1
   rw [Bool.and_eq_true, decide_eq_true_eq, decide_eq_true_eq] at h1
   exact ⟨h1.1, h1.2⟩
  obtain ⟨u, q1, q2⟩ := O9' (c :: r) 0 hq (by decide) (by
   rw [hl, Nat.zero_add, Nat.one_mul]
   exact Nat.pow_le_pow_right (by decide) h9)
  have e9 : (10 : Nat) ^ 9 = 1000000000 := rfl
  rw [e9] at q2
  refine ⟨u, ?_, q2⟩
  unfold Lib.atoiAll
  have e1 : ¬ (c.toNat = 43 ∨ c.toNat = 45) := by omega
  have e2 : ¬ (c.toNat = 45) := by omega
  simp only [if_neg e1, Lib.parseMag, if_neg (List.cons_ne_nil c r), q1]
  rw [if_neg (by omega), if_neg (by rintro ⟨h, _⟩; exact e2 h), if_neg e2]
theorem SI' (v : ByteArray) (h0 : v.size ≠ 0) (h9 : v.size ≤ 9) (hq : v.data.toList.all qD = true) : Lib.atoiAll v.data.toList = .ok (LK' v : Int) ∧ LK' v < 1000000000 := by
 obtain ⟨u, h1, h2⟩ := QR' v h0 h9 hq
 unfold LK'
 rw [h1]
 exact ⟨rfl, h2⟩
theorem RO' (s : ByteArray) (h : s.data.toList.all qN = true) : IO' s := by
 intro j b hb
 have hm : b ∈ s.data.toList := List.mem_of_getElem? hb
 have := List.all_eq_true.1 h b hm
 have key : ∀ c : Fin 256, qN (UInt8.ofNat c.val) = true → c.val < 128 := by decide
 have hb : UInt8.ofNat b.toNat = b := UInt8.ofNat_toNat
 exact key ⟨b.toNat, b.toNat_lt⟩ (by rw [hb]; exact this)
theorem P4' (s t : ByteArray) : (cut1 s t).size ≤ s.size := by
 unfold cut1
 rw [BC']
 have hl : s.data.toList.length = s.size := rfl
 unfold Lib.cut
 split
 ·simp only [List.length_take]; omega
 ·simp only; omega
theorem L1' (s t : ByteArray) : (cut2 s t).size ≤ s.size := by
 unfold cut2
 rw [BC']
 have hl : s.data.toList.length = s.size := rfl
 unfold Lib.cut
 split
 ·simp only [List.length_drop]; omega
 ·simp
abbrev Rq0 : Type := ByteArray × ByteArray × Hds
def hdL (ls : List ByteArray) : Hd Rq0 := match ls with
 | [] => .bad 400
 | l :: r => match lnB l with
  | none => .bad 400
  | some (m, t) => match C7' [] r with
   | none => .bad 400
   | some L => match lenB L with
    | none => .bad 400
    | some n => if 65536 < n then .bad 413 else .ok (m, t, L) n
def GO' (w : List UInt8) : List ByteArray := splB (sufB (tB w) crB2) crB
def hdB (w : List UInt8) : Hd Rq0 := hdL (GO' w)
end Go.Proofs.YtpijbbobejeemaaGreatDoor.Htp
namespace Go.Proofs.YtpijbbobejeemaaGreatDoor.Tree
open Go Go.RowKit Eng Kit
inductive Tv where
 | mk (kind num : Int) (text : ByteArray) (list : List Tv) (tab : List (ByteArray × Tv))
 deriving Inhabited
abbrev Tf := List (ByteArray × Tv)
def Tv.kind : Tv → Int
 | .mk k _ _ _ _ => k
def Tv.num : Tv → Int
 | .mk _ n _ _ _ => n
def Tv.text : Tv → ByteArray
 | .mk _ _ t _ _ => t
def Tv.list : Tv → List Tv
 | .mk _ _ _ l _ => l
def Tv.tab : Tv → Tf
 | .mk _ _ _ _ f => f
structure Rv where
 k : Int
 n : Int
 t : ByteArray
 la : Option Addr
 ll : Nat
 lc : Nat
 ta : Option Addr
 tl : Nat
 tc : Nat
 deriving Inhabited
def Rv.cells (r : Rv) : List Value := [.int .i64 r.k, .int .i64 r.n, .string r.t, .slice r.la r.ll r.lc, .slice r.ta r.tl r.tc]
abbrev Mem := Addr → Option Value
def Cells (C : Mem) (a : Addr) (cs : List Value) : Prop := ∀ j u, cs[j]? = some u → C (a.add j) = some u
def big : Nat := 140737488351232
def LOf (V : Tv → Rv → Prop) (C : Mem) (oa : Option Addr) (l : List Tv) : Prop := l.length * 80 ≤ big ∧ ∀ i x, l[i]? = some x → ∃ a r, oa = some a ∧ Cells C (a.add (i * 5)) r.cells ∧ V x r
def FOf (V : Tv → Rv → Prop) (C : Mem) (oa : Option Addr) (f : Tf) : Prop := f.length * 96 ≤ big ∧ ∀ i nm x, f[i]? = some (nm, x) → ∃ a r, oa = some a ∧ Cells C (a.add (i * 6)) (.string nm :: r.cells) ∧ V x r
def VAt (C : Mem) : Nat → Tv → Rv → Prop
 | 0 => fun _ _ => False
 | d + 1 => fun v r => (r.k = v.kind ∧ r.n = v.num ∧ r.t = v.text ∧ r.ll = v.list.length ∧ r.tl = v.tab.length) ∧ LOf (VAt C d) C r.la v.list ∧ FOf (VAt C d) C r.ta v.tab
abbrev LAt (C : Mem) (d : Nat) := LOf (VAt C d) C
abbrev FAt (C : Mem) (d : Nat) := FOf (VAt C d) C
theorem Cells.mono {C C' : Mem} (h : ∀ a v, C a = some v → C' a = some v) {a : Addr} {cs : List Value} (hc : Cells C a cs) : Cells C' a cs := fun j u hu => h _ _ (hc j u hu)
theorem LOf.mono {V V' : Tv → Rv → Prop} (hV : ∀ x r, V x r → V' x r) {C C' : Mem} (h : ∀ a v, C a = some v → C' a = some v) {oa : Option Addr} {l : List Tv} (hl : LOf V C oa l) : LOf V' C' oa l :=
 ⟨hl.1, fun i x hx => by
  obtain ⟨a, r, h1, h2, h3⟩ := hl.2 i x hx
  exact ⟨a, r, h1, h2.mono h, hV _ _ h3⟩⟩
theorem FOf.mono {V V' : Tv → Rv → Prop} (hV : ∀ x r, V x r → V' x r) {C C' : Mem} (h : ∀ a v, C a = some v → C' a = some v) {oa : Option Addr} {f : Tf} (hf : FOf V C oa f) : FOf V' C' oa f :=
 ⟨hf.1, fun i nm x hx => by
  obtain ⟨a, r, h1, h2, h3⟩ := hf.2 i nm x hx
  exact ⟨a, r, h1, h2.mono h, hV _ _ h3⟩⟩
theorem VAt.mono {C C' : Mem} (h : ∀ a v, C a = some v → C' a = some v) : ∀ {d : Nat} {v : Tv} {r : Rv}, VAt C d v r → VAt C' d v r
 | 0, _, _, hv => hv.elim
 | d + 1, v, r, hv => ⟨hv.1, hv.2.1.mono (fun x r hx => VAt.mono h hx) h, hv.2.2.mono (fun x r hx => VAt.mono h hx) h⟩
theorem LAt.mono {C C' : Mem} (h : ∀ a v, C a = some v → C' a = some v) {d : Nat} {oa : Option Addr} {l : List Tv} (hl : LAt C d oa l) : LAt C' d oa l := LOf.mono (fun _ _ hx => VAt.mono h hx) h hl
theorem FAt.mono {C C' : Mem} (h : ∀ a v, C a = some v → C' a = some v) {d : Nat} {oa : Option Addr} {l : Tf} (hl : FAt C d oa l) : FAt C' d oa l := FOf.mono (fun _ _ hx => VAt.mono h hx) h hl
noncomputable section
def JS' (D : Nat → Prop) (w : World) : Mem := fun a => by classical exact if D a.block then w.cell? a else none
theorem YZ' {D : Nat → Prop} {w : World} {a : Addr} (h : D a.block) : JS' D w a = w.cell? a := by unfold JS'; rw [if_pos h]
theorem J1' {D : Nat → Prop} {w : World} {a : Addr} {v : Value} (h : JS' D w a = some v) : D a.block ∧ w.cell? a = some v := by
 unfold JS' at h
 split at h
 ·rename_i hd; exact ⟨hd, h⟩
 ·cases h
theorem ZO' {w w' : World} {a : Addr} (h : w'.heap[a.block]? = w.heap[a.block]?) : w'.cell? a = w.cell? a := by unfold World.cell?; rw [h]
theorem UX' {D : Nat → Prop} {w w' : World} (h : ∀ b, D b → w'.heap[b]? = w.heap[b]?) : JS' D w' = JS' D w := by
 funext a
 unfold JS'
 split
 ·rename_i hd; exact ZO' (h _ hd)
 ·rfl
def frz (P : Mem → Prop) : HP where
 on D w := P (JS' D w) ∧ ∀ b, D b → b < w.heap.size
 far {D w w'} hf := fun ⟨h1, h2⟩ => ⟨by rw [UX' hf]; exact h1, fun b hb => by
  have h3 := hf b hb
  rw [Array.getElem?_eq_getElem (h2 b hb)] at h3
  exact (Array.getElem?_eq_some_iff.1 h3).1⟩
 lt {D w} := fun ⟨_, h2⟩ => h2
variable (m : Md)
def ownL (d : Nat) (l : List Tv) : AO := .own m fun b _ => frz fun C => LAt C d (some ⟨b, 0, none⟩) l
variable {m}
theorem LOf.nil {V : Tv → Rv → Prop} {C : Mem} (oa : Option Addr) : LOf V C oa [] := ⟨Nat.zero_le _, fun i x h => by simp at h⟩
theorem FOf.nil {V : Tv → Rv → Prop} {C : Mem} (oa : Option Addr) : FOf V C oa [] := ⟨Nat.zero_le _, fun i nm x h => by simp at h⟩
theorem O1' {N : AC'} {k n sz : Nat} {y : Value} (h : VR N (.slice k 0 n sz (.lo n)) y) : ∃ l x c, N k = some l ∧ y = .slice (some ⟨l.blk, x, none⟩) n c ∧ (0 < n → x = l.off) := by
 simp only [VR] at h
 obtain ⟨l, x, c, h1, h2, h3, h4, h5, h6⟩ := h
 refine ⟨l, x, c, h1, h2, fun hn => ?_⟩
 rcases h3 with h3 | h3
 ·rw [h3, Nat.add_zero]
 ·omega
def PF (d : Nat) (R : List (ByteArray × Rv)) (f : Tf) (C : Mem) : Prop := R.length = f.length ∧ ∀ (i : Nat) (nm : ByteArray) (x : Tv), f[i]? = some (nm, x) → ∃ r, R[i]? = some (nm, r) ∧ VAt C d x r
def PV (d : Nat) (R : List Rv) (l : List Tv) (C : Mem) : Prop := R.length = l.length ∧ ∀ (i : Nat) (x : Tv), l[i]? = some x → ∃ r, R[i]? = some r ∧ VAt C d x r
theorem PF.mono {d : Nat} {R : List (ByteArray × Rv)} {f : Tf} {C C' : Mem} (h : ∀ a v, C a = some v → C' a = some v) (hp : PF d R f C) : PF d R f C' := ⟨hp.1, fun i nm x hx => by
 obtain ⟨r, h1, h2⟩ := hp.2 i nm x hx
 exact ⟨r, h1, h2.mono h⟩⟩
theorem PV.mono {d : Nat} {R : List Rv} {l : List Tv} {C C' : Mem} (h : ∀ a v, C a = some v → C' a = some v) (hp : PV d R l C) : PV d R l C' := ⟨hp.1, fun i x hx => by
 obtain ⟨r, h1, h2⟩ := hp.2 i x hx
 exact ⟨r, h1, h2.mono h⟩⟩
theorem PF.add {d : Nat} {R : List (ByteArray × Rv)} {f : Tf} {C : Mem} (hp : PF d R f C) {nm : ByteArray} {x : Tv} {r : Rv} (hx : VAt C d x r) : PF d (R ++ [(nm, r)]) (f ++ [(nm, x)]) C := by
 refine ⟨by simp [hp.1], fun i n y hy => ?_⟩
 rcases Nat.lt_or_ge i f.length with h | h
 ·rw [List.getElem?_append_left h] at hy
  obtain ⟨s, h1, h2⟩ := hp.2 i n y hy
  exact ⟨s, by rw [List.getElem?_append_left (by have := hp.1; omega)]; exact h1, h2⟩
 ·rw [List.getElem?_append_right h] at hy
  have : i - f.length = 0 := by
   cases hk : i - f.length with
   | zero => rfl
   | succ n => rw [hk] at hy; simp at hy
  rw [this] at hy
  simp only [List.getElem?_cons_zero, Option.some.injEq, Prod.mk.injEq] at hy
  obtain ⟨rfl, rfl⟩ := hy
  refine ⟨r, ?_, hx⟩
  rw [List.getElem?_append_right (by have := hp.1; omega), show i - R.length = 0 by have := hp.1; omega]
  rfl
theorem PV.add {d : Nat} {R : List Rv} {f : List Tv} {C : Mem} (hp : PV d R f C) {x : Tv} {r : Rv} (hx : VAt C d x r) : PV d (R ++ [r]) (f ++ [x]) C := by
 refine ⟨by simp [hp.1], fun i y hy => ?_⟩
 rcases Nat.lt_or_ge i f.length with h | h
 ·rw [List.getElem?_append_left h] at hy
  obtain ⟨s, h1, h2⟩ := hp.2 i y hy
  exact ⟨s, by rw [List.getElem?_append_left (by have := hp.1; omega)]; exact h1, h2⟩
 ·rw [List.getElem?_append_right h] at hy
  have : i - f.length = 0 := by
   cases hk : i - f.length with
   | zero => rfl
   | succ n => rw [hk] at hy; simp at hy
  rw [this] at hy
  simp only [List.getElem?_cons_zero, Option.some.injEq] at hy
  subst hy
  refine ⟨r, ?_, hx⟩
  rw [List.getElem?_append_right (by have := hp.1; omega), show i - R.length = 0 by have := hp.1; omega]
  rfl
end
noncomputable section
theorem VW' {N : AC'} {i : Nat} {cs : List Value} {e : TypeId} {D : Nat → Prop} {w : World} (h : OR N i (.cells (vmap cs) (2 * e)) D w) : ∃ l, N i = some l ∧ l.off = 0 ∧ ∀ j u, cs[j]? = some u → JS' D w ⟨l.blk, j, none⟩ = some u := by
 obtain ⟨l, arr, fz, h1, h2, h3, h4, h5, h6, h7, h8⟩ := h
 obtain ⟨z, _⟩ := h8 (Nat.mul_mod_right 2 e)
 refine ⟨l, h1, z, fun j u hj => ?_⟩
 rw [YZ' ((h2 _).2 rfl)]
 have h7 := VRs.of_vmap h7
 have hlen : (vmap cs).length = cs.length := by simp [vmap]
 rw [z, List.drop_zero, hlen] at h7
 unfold World.cell?
 simp only [h3]
 have hj' := (List.getElem?_eq_some_iff.1 hj).1
 have : (arr.toList.take cs.length)[j]? = some u := by rw [h7]; exact hj
 rw [List.getElem?_take_of_lt hj'] at this
 simpa using this
theorem aT' {α : Type} {f : α → List Value} {m : Nat} (hf : ∀ x, (f x).length = m) : ∀ (l : List α) (k j : Nat) (x : α), l[k]? = some x → j < m → (l.flatMap f)[k * m + j]? = (f x)[j]?
 | [], k, j, x, h, _ => by simp at h
 | y :: l, 0, j, x, h, hj => by
  simp only [List.getElem?_cons_zero, Option.some.injEq] at h
  subst h
  rw [List.flatMap_cons, Nat.zero_mul, Nat.zero_add, List.getElem?_append_left (by rw [hf]; exact hj)]
 | y :: l, k + 1, j, x, h, hj => by
  rw [List.getElem?_cons_succ] at h
  rw [List.flatMap_cons, List.getElem?_append_right (by rw [hf, Nat.succ_mul]; omega), hf, show (k + 1) * m + j - m = k * m + j from by rw [Nat.succ_mul]; omega]
  exact aT' hf l k j x h hj
theorem R0' (b n j : Nat) : ((Addr.mk b 0 none).add n).add j = Addr.mk b (n + j) none := by
 unfold Addr.add
 split
 ·rename_i hj
  subst hj
  split
  ·rename_i hn; subst hn; rfl
  ·show Addr.mk b (0 + n) none = _; rw [Nat.zero_add, Nat.add_zero]
 ·split
  ·rename_i hn; subst hn; rfl
  ·show Addr.mk b (0 + n + j) none = _; rw [Nat.zero_add]
theorem U2' {α : Type} {f : α → List Value} {m : Nat} (hf : ∀ x, (f x).length = m) {N : AC'} {i : Nat} {R : List α} {e : TypeId} {D : Nat → Prop} {w : World} (h : OR N i (.cells (rowV f R) (2 * e)) D w) :
  ∃ l, N i = some l ∧ l.off = 0 ∧ ∀ k x, R[k]? = some x → Cells (JS' D w) ((Addr.mk l.blk 0 none).add (k * m)) (f x) := by
 obtain ⟨l, h1, h2, h3⟩ := VW' (cs := R.flatMap f) h
 refine ⟨l, h1, h2, fun k x hx j u hu => ?_⟩
 rw [R0']
 refine h3 _ _ ?_
 rw [aT' hf R k j x hx (by rw [← hf x]; exact (List.getElem?_eq_some_iff.1 hu).1)]
 exact hu
end
end Go.Proofs.YtpijbbobejeemaaGreatDoor.Tree
namespace Go.Proofs.YtpijbbobejeemaaGreatDoor.Htp
open Go Go.RowKit Eng Kit Tree
noncomputable section
abbrev tRqs : TypeId := 2 * 32
abbrev Rqm : Type := Rq0 × List UInt8
structure Rqr where
 m : ByteArray
 t : ByteArray
 ha : Option Addr
 hn : Nat
 hc : Nat
 ba : Addr
 bn : Nat
 bc : Nat
def encQ (r : Rqr) : List Value := [.string r.m, .string r.t, .slice r.ha r.hn r.hc, .slice (some r.ba) r.bn r.bc]
def HAt (C : Mem) (a : Option Addr) (l : Hds) : Prop := ∀ (i : Nat) p, l[i]? = some p → ∃ x, a = some x ∧ Tree.Cells C (x.add (i * 2)) (encP p)
def BAt (C : Mem) (a : Addr) (l : List UInt8) : Prop := ∀ (i : Nat) b, l[i]? = some b → C (a.add i) = some (.int .u8 b.toNat)
def HNil (a : Option Addr) (c : Nat) (l : Hds) : Prop := (l = [] → a = none ∧ c = 0) ∧ (l ≠ [] → ∃ x, a = some x)
def QAt (C : Mem) (x : Rqm) (r : Rqr) : Prop := r.m = x.1.1 ∧ r.t = x.1.2.1 ∧ r.hn = x.1.2.2.length ∧ r.bn = x.2.length ∧ HAt C r.ha x.1.2.2 ∧ BAt C r.ba x.2 ∧ HNil r.ha r.hc x.1.2.2
theorem HAt.mono {C C' : Mem} (h : ∀ a v, C a = some v → C' a = some v) {a : Option Addr} {l : Hds} (hp : HAt C a l) : HAt C' a l := fun i p hi => by
 obtain ⟨x, h1, h2⟩ := hp i p hi
 exact ⟨x, h1, h2.mono h⟩
theorem BAt.mono {C C' : Mem} (h : ∀ a v, C a = some v → C' a = some v) {a : Addr} {l : List UInt8} (hp : BAt C a l) : BAt C' a l := fun i p hi => h _ _ (hp i p hi)
theorem QAt.mono {C C' : Mem} (h : ∀ a v, C a = some v → C' a = some v) {x : Rqm} {r : Rqr} (hp : QAt C x r) : QAt C' x r := ⟨hp.1, hp.2.1, hp.2.2.1, hp.2.2.2.1, hp.2.2.2.2.1.mono h, hp.2.2.2.2.2.1.mono h, hp.2.2.2.2.2.2⟩
def PQ (R : List Rqr) (M : List Rqm) (C : Mem) : Prop := R.length = M.length ∧ ∀ (i : Nat) (x : Rqm), M[i]? = some x → ∃ r, R[i]? = some r ∧ QAt C x r
theorem PQ.mono {C C' : Mem} (h : ∀ a v, C a = some v → C' a = some v) {R : List Rqr} {M : List Rqm} (hp : PQ R M C) : PQ R M C' := ⟨hp.1, fun i x hx => by
 obtain ⟨r, h1, h2⟩ := hp.2 i x hx
 exact ⟨r, h1, h2.mono h⟩⟩
theorem PQ.add {R : List Rqr} {M : List Rqm} {C : Mem} (hp : PQ R M C) {x : Rqm} {r : Rqr} (hx : QAt C x r) : PQ (R ++ [r]) (M ++ [x]) C := by
 refine ⟨by simp [hp.1], fun i y hy => ?_⟩
 rcases Nat.lt_or_ge i M.length with h | h
 ·rw [List.getElem?_append_left h] at hy
  obtain ⟨s, h1, h2⟩ := hp.2 i y hy
  exact ⟨s, by rw [List.getElem?_append_left (by have := hp.1; omega)]; exact h1, h2⟩
 ·rw [List.getElem?_append_right h] at hy
  have : i - M.length = 0 := by
   cases hk : i - M.length with
   | zero => rfl
   | succ n => rw [hk] at hy; simp at hy
  rw [this] at hy
  simp only [List.getElem?_cons_zero, Option.some.injEq] at hy
  subst hy
  refine ⟨r, ?_, hx⟩
  rw [List.getElem?_append_right (by have := hp.1; omega), show i - R.length = 0 by have := hp.1; omega]
  rfl
theorem PQ.nil (C : Mem) : PQ [] [] C := ⟨rfl, fun i x h => by simp at h⟩
theorem b0' {N : AC'} {k : Nat} {l : Hds} {y : Value} {D : Nat → Prop} {w : World} (ho : OR N k (rP l) D w) (hy : VR N (sP k l.length) y) : ∃ a c, y = .slice (some a) l.length c ∧ HAt (JS' D w) (some a) l := by
 obtain ⟨lo, x, c, h1, rfl, h3⟩ := O1' hy
 obtain ⟨lo', h1', h0, h2⟩ := U2' (f := encP) (m := 2) EF' ho
 rw [h1] at h1'
 cases h1'
 refine ⟨_, _, rfl, fun i p hi => ⟨_, rfl, ?_⟩⟩
 have hil := (List.getElem?_eq_some_iff.1 hi).1
 rw [h3 (by omega), h0]
 exact h2 i p hi
theorem bd_raw {N : AC'} {k : Nat} {l : List UInt8} {y : Value} {D : Nat → Prop} {w : World} (ho : OR N k (rB l) D w) (hy : VR N (sB k l.length) y) : ∃ a c, y = .slice (some a) l.length c ∧ BAt (JS' D w) a l := by
 obtain ⟨lo, x, c, h1, rfl, h3⟩ := O1' hy
 obtain ⟨lo', h1', h0, h2⟩ := U2' (f := encB) (m := 1) K2' ho
 rw [h1] at h1'
 cases h1'
 refine ⟨_, _, rfl, fun i b hi => ?_⟩
 have hil := (List.getElem?_eq_some_iff.1 hi).1
 rw [h3 (by omega), h0]
 have := h2 i b hi 0 (.int .u8 b.toNat) rfl
 rw [Nat.mul_one, R0'] at this
 have e : ∀ (bl n : Nat), ((Addr.mk bl 0 none).add n) = Addr.mk bl (n + 0) none := fun bl n => by
  have := R0' bl n 0
  rw [← this]
  rfl
 rw [e]
 exact this
theorem fourV {N : AC'} {m t : ByteArray} {HV BV : AV} {yb : List Value} (h : VRs N [sv m, sv t, HV, BV] yb) : ∃ yl yt, VR N HV yl ∧ VR N BV yt ∧ yb = [.string m, .string t, yl, yt] := by
 obtain ⟨y0, r0, a0, h, rfl⟩ := h
 obtain ⟨y1, r1, a1, h, rfl⟩ := h
 obtain ⟨y2, r2, a2, h, rfl⟩ := h
 obtain ⟨y3, r3, a3, h, rfl⟩ := h
 have h : r3 = [] := h
 subst h
 have a0 : y0 = .string m := VR_v.1 a0
 have a1 : y1 = .string t := VR_v.1 a1
 subst a0 a1
 exact ⟨y2, y3, a2, a3, rfl⟩
theorem UT' {N1 : AC'} {C : Mem} : ∀ y, VR N1 nilP y → ∃ a c, y = .slice a ([] : Hds).length c ∧ HAt C a [] ∧ HNil a c [] := by
 intro y hy
 have := VR_v.1 hy
 subst this
 exact ⟨_, _, rfl, (fun i p h => by simp at h), fun _ => ⟨rfl, rfl⟩, fun h => absurd rfl h⟩
end
noncomputable section
theorem bX' {x : List AV} {t : TypeId} : OW (.cells x (2 * t)) (.cells x (2 * t + 1)) := fun N i D w h => by
 obtain ⟨l, arr, fz, h1, h2, h3, h4, h5, h6, h7, h8⟩ := h
 refine ⟨l, arr, fz, h1, h2, ?_, h4, h5, h6, h7, fun e => ?_⟩
 ·have e : ∀ n : Nat, (2 * n + 1) / 2 = 2 * n / 2 := fun n => by omega
  rw [e t]; exact h3
 ·have e2 : ∀ n : Nat, (2 * n + 1) % 2 = 1 := fun n => by omega
  rw [e2 t] at e; cases e
theorem aP' (l : List UInt8) : OW (rB l) (rB1 l) := bX'
def parL : Option (List UInt8 × Nat × Nat) → LH
 | none => [(0, pZ)]
 | some (P, off, n) => [(0, pO 1002 off n), (1002, rB1 P)]
def parR (w : List UInt8) : Option (List UInt8 × Nat × Nat) → Prop
 | none => w = []
 | some (P, off, n) => P.drop off = w ∧ n = w.length ∧ off + n = P.length
def parO (w : List UInt8) : AO := .own .nothing (exHP (parR w) parL)
theorem bW' (z : Option (List UInt8 × Nat × Nat)) : ∀ x ∈ parL z, x.2.cl (kH (parL z)) := by
 cases z with
 | none => exact A0' ⟨t0, t0⟩ A3'
 | some z => exact A0' ⟨rfl, t0⟩ (A0' (AM' _ _) A3')
theorem UD' (z : Option (List UInt8 × Nat × Nat)) : ∃ o, getO (parL z) 0 = some o := by cases z <;> exact ⟨_, rfl⟩
theorem MT' (H0 : LH) (h : (getO H0 0).isNone = true ∧ (getO H0 1002).isNone = true ∧ AT' 1100 H0 = true) (z : Option (List UInt8 × Nat × Nat)) : Eng.ownL H0 (parL z) = true := by
 obtain ⟨h1, h2, h3⟩ := h
 cases z with
 | none =>
  unfold Eng.ownL parL
  simp only [List.all_cons, List.all_nil, h1, h2, h3, Bool.and_true]
  rfl
 | some z =>
  unfold Eng.ownL parL
  simp only [List.all_cons, List.all_nil, h1, h2, h3, Bool.and_true]
  rfl
theorem K0' {W : World} {f : FuncId} {A : List AV} {w : List UInt8} {H0 : LH} (h : (getO H0 0).isNone = true ∧ (getO H0 1002).isNone = true ∧ AT' 1100 H0 = true) {v : AV} {H' : LH} (h0 : w = [] → Tri Tryz.prog W f A ((0, pZ) :: H0) v H')
  (h1 : ∀ P off, P.drop off = w → off + w.length = P.length → Tri Tryz.prog W f A ((0, pO 1002 off w.length) :: (1002, rB1 P) :: H0) v H') : Tri Tryz.prog W f A ((0, parO w) :: H0) v H' :=
 Tri.open (R := parR w) (L := parL) (H0 := H0) (MT' H0 h) bW' UD' fun z hz => by
  cases z with
  | none => exact h0 hz
  | some z =>
   obtain ⟨P, off, n⟩ := z
   obtain ⟨q1, rfl, q3⟩ := hz
   exact h1 P off q1 q3
theorem H1' {w P : List UInt8} {off : Nat} {H0 : LH} {vs : List AV} (h : (getO H0 0).isNone = true ∧ (getO H0 1002).isNone = true ∧ AT' 1100 H0 = true) (h1 : P.drop off = w) (h2 : off + w.length = P.length) (hv : AV.cls (fun i => Nat.blt i 1000 || (getO H0 i).isSome) vs)
  (ho : ∀ x ∈ H0, x.2.cl (fun i => Nat.blt i 1000 || (getO H0 i).isSome)) : Goes vs ((0, pO 1002 off w.length) :: (1002, rB1 P) :: H0) vs ((0, parO w) :: H0) :=
 Goes.shut (R := parR w) (L := parL) (m := .nothing) (H0 := H0) (some (P, off, w.length)) ⟨h1, rfl, h2⟩ (MT' H0 h _) ⟨_, _, rfl, rfl⟩ hv ho
theorem KC' {H0 : LH} {vs : List AV} (h : (getO H0 0).isNone = true ∧ (getO H0 1002).isNone = true ∧ AT' 1100 H0 = true) (hv : AV.cls (fun i => Nat.blt i 1000 || (getO H0 i).isSome) vs)
  (ho : ∀ x ∈ H0, x.2.cl (fun i => Nat.blt i 1000 || (getO H0 i).isSome)) : Goes vs ((0, pZ) :: H0) vs ((0, parO []) :: H0) :=
 Goes.shut (R := parR []) (L := parL) (m := .nothing) (H0 := H0) none rfl (MT' H0 h _) ⟨_, _, rfl, rfl⟩ hv ho
theorem pZ_par : OW pZ (parO []) := fun N i D w h => by
 obtain ⟨l, arr, fz, h1, h2, h3, h4, h5, h6, h7, h8⟩ := h
 obtain ⟨z0, z1⟩ := h8 rfl
 refine ⟨l, h1, z0, none, rfl, fun k => if k = 0 then some l else none, fun _ => D, ?_, fun k o hk => ?_, fun j k o o' hj hk hjk => ?_, fun x => ⟨fun hx => ⟨0, pZ, rfl, hx⟩, fun ⟨_, _, _, hx⟩ => hx⟩⟩
 ·show some l = _
  cases l; cases z0; rfl
 ·simp only [parL, getO] at hk
  by_cases e : k = 0
  ·subst e
   simp only [if_true] at hk
   cases hk
   obtain ⟨y, r, a0, h, e1⟩ := h7
   have a0 := VR_v.1 a0
   exact ⟨l, arr, fz, rfl, h2, h3, h4, h5, h6, ⟨y, r, VR_v.2 a0, h, e1⟩, h8⟩
  ·simp only [e, if_false] at hk
   cases hk
 ·exfalso
  simp only [parL, getO] at hj hk
  by_cases e : j = 0
  ·by_cases e2 : k = 0
   ·exact hjk (e.trans e2.symm)
   ·simp only [e2, if_false] at hk; cases hk
  ·simp only [e, if_false] at hj; cases hj
theorem Goes.ren {vs vs' : List AV} {H H' : LH} (σ : Nat → Nat) (hσ : ∀ i, i < 1000 → σ i = i) (hl : AT' 1100 H = true) (hl' : AT' 1100 H' = true) (hn : ∀ i, 1000 ≤ i → getO H' i = none → 1000 ≤ σ i ∧ getO H (σ i) = none) (hinj : injB (H'.map (·.1)) σ = true)
  (hf : ∀ x ∈ H', ∃ o, getO H (σ x.1) = some o ∧ OW o (x.2.ren σ)) (hv : vs = AV.rens σ vs') : Goes vs H vs' H' := by
 rintro W0 F N ys w ⟨N1, g1, g2, r, hvs⟩
 refine ⟨fun i => N1 (σ i), fun i hi => by show N1 (σ i) = N i; rw [hσ i hi]; exact g1 i hi, fun i hi hg => ?_, r.pull (aW' hl') hinj fun x hx => ?_, ?_⟩
 ·obtain ⟨a1, a2⟩ := hn i hi hg
  exact g2 _ a1 a2
 ·obtain ⟨o, h1, h2⟩ := hf x hx
  exact ⟨o, by rw [BD' (aW' hl)]; exact h1, h2⟩
 ·rw [hv] at hvs
  exact EL'.1 hvs
end
noncomputable section
abbrev GH' : Nat := 10
end
noncomputable section
abbrev CU' : Nat := 28
abbrev fHdr : Nat := 29
abbrev fLen : Nat := 30
abbrev tReq : TypeId := 2 * 32
def rqO (m t : ByteArray) (h b : AV) : AO := .cells [sv m, sv t, h, b] tReq
def hLn (s a b c : ByteArray) (L : List ByteArray) (n : Nat) (b1 b2 b3 b4 b5 b6 b7 r : Bool) : B4' := AB' [(CU', 1, 1, hvo (sB 1100 n) 1100 (rS L)), (CU', 2, 2, hv (.lit b1)), (CU', 2, 6, hv (sv a)), (CU', 2, 7, hv (.lit b2)), (CU', 2, 12, hv (sv a)), (CU', 2, 14, hv (.lit b3)), (CU', 2, 19, hv (sv a)), (CU', 2, 21, hv (.lit b4)), (CU', 2, 26, hv (sv b)), (CU', 2, 28, hv (.lit b5)), (CU', 2, 33, hv (sv b)), (CU', 2, 35, hv (.lit b6)), (CU', 2, 40, hv (sv c)), (CU', 2, 41, hv (.lit b7)), (CU', 2, 42, hv (.lit r)), (CU', 4, 4, hv (sv a)), (CU', 4, 7, hv (sv b))]
def cnLn : LR' := [(VG', hK'), (fAll, cAll), (fHPre, cHPre)]
noncomputable section
abbrev y1' : ByteArray := ByteArray.mk (Array.mk [32])
abbrev k19' (q0 : Nat) : Cnd := (f' (Wk (b' (↑q0 != Int.ofNat 3)) j'))
abbrev k20' : Cnd := (f' (Wk j' j'))
end
theorem eH' (W : World) (s : ByteArray) (L : List ByteArray) (n : Nat) (F : HP) : wRun cnLn (hLn s s s s L n true false false false false false false true) [] W CU' [sv s, .ptr 0 0] [(0, rqO nil0 nil0 nilP nilB)] [0] F = VT.leaf (b' false) [some (AO.cells [s' nil0,s' nil0,e',e'] 64)] 1101 (((p' (1 ≤ 1 ∧ s.size < 4294967281)).a ((p' (OW (AO.cells (vmap (List.map Value.string (splB s y1'))) 18) (AO.cells (rowV encS L) 18))).a (f' (Wk (AV.slice 1100 0 (List.map Value.string (splB s y1')).length 1 (Cp.lo (List.map Value.string (splB s y1')).length)) (AV.slice 1100 0 n 1 (Cp.lo n)))))).a ((k19' n).a (k20'.a t'))) := by kernel_rfl
noncomputable section
abbrev k21' (q0 q1 q2 q3 : ByteArray) (q4 : Nat) : Cnd := ((p' (1 ≤ 1 ∧ q0.size < 4294967281)).a ((p' (OW (AO.cells (vmap (List.map Value.string (splB q0 y1'))) 18) (AO.cells [s' q1,s' q2,s' q3] 18))).a (f' (Wk (AV.slice q4 0 (List.map Value.string (splB q0 y1')).length 1 (Cp.lo (List.map Value.string (splB q0 y1')).length)) (AV.slice q4 0 3 1 (Cp.lo 3))))))
abbrev k22' (q0 : ByteArray) : Cnd := ((p' (true = true)).a ((p' (s' q0 = s' q0)).a (f' (Wk (s' q0) (s' q0)))))
abbrev k23' (q0 : ByteArray) : Cnd := (f' (Wk (b' (q0.toList == [])) j'))
end
theorem eG' (W : World) (s a b c : ByteArray) (F : HP) : wRun cnLn (hLn s a b c [a, b, c] 3 false true false false false false false true) [] W CU' [sv s, .ptr 0 0] [(0, rqO nil0 nil0 nilP nilB)] [0] F = VT.leaf (b' false) [some (AO.cells [s' nil0,s' nil0,e',e'] 64)] 1101 ((k21' s a b c 1100).a (k18'.a (k12'.a ((k22' a).a ((k23' a).a (k20'.a t')))))) := by kernel_rfl
noncomputable section
abbrev k24' (q0 : ByteArray) : Cnd := (f' (Wk (b' (q0.toList == [])) g'))
abbrev k25' (q0 : ByteArray) : Cnd := (f' (Wk (b' (decide (↑q0.size > Int.ofNat 20))) j'))
end
theorem eF' (W : World) (s a b c : ByteArray) (F : HP) : wRun cnLn (hLn s a b c [a, b, c] 3 false false true false false false false true) [] W CU' [sv s, .ptr 0 0] [(0, rqO nil0 nil0 nilP nilB)] [0] F = VT.leaf (b' false) [some (AO.cells [s' nil0,s' nil0,e',e'] 64)] 1101 ((k21' s a b c 1100).a (k18'.a (k12'.a ((k22' a).a ((k24' a).a (k12'.a ((k22' a).a ((k25' a).a (k20'.a t'))))))))) := by kernel_rfl
noncomputable section
abbrev k26' (q0 : ByteArray) : Cnd := (f' (Wk (b' (decide (↑q0.size > Int.ofNat 20))) g'))
abbrev k27' (q0 : ByteArray) : Cnd := (f' (Five 53 ∧ q0.size ≤ 4000000))
end
theorem eE' (W : World) (s a b c : ByteArray) (F : HP) : wRun cnLn (hLn s a b c [a, b, c] 3 false false false true false false false true) [] W CU' [sv s, .ptr 0 0] [(0, rqO nil0 nil0 nilP nilB)] [0] F = VT.leaf (b' false) [some (AO.cells [s' nil0,s' nil0,e',e'] 64)] 1101 ((k21' s a b c 1100).a (k18'.a (k12'.a ((k22' a).a ((k24' a).a (k12'.a ((k22' a).a ((k26' a).a (k12'.a ((k22' a).a ((k27' a).a ((f' (Wk (AV.v (Value.bool !qIn 53 a)) j')).a (k20'.a t'))))))))))))) := by kernel_rfl
noncomputable section
abbrev y2' : ByteArray := ByteArray.mk (Array.mk [47])
abbrev k28' (q0 : ByteArray) : Cnd := (f' (Wk (AV.v (Value.bool !qIn 53 q0)) g'))
abbrev k29' : Cnd := ((p' True).a t')
end
theorem eD' (W : World) (s a b c : ByteArray) (F : HP) : wRun cnLn (hLn s a b c [a, b, c] 3 false false false false true false false true) [] W CU' [sv s, .ptr 0 0] [(0, rqO nil0 nil0 nilP nilB)] [0] F = VT.leaf (b' false) [some (AO.cells [s' nil0,s' nil0,e',e'] 64)] 1101 ((k21' s a b c 1100).a (k18'.a (k12'.a ((k22' a).a ((k24' a).a (k12'.a ((k22' a).a ((k26' a).a (k12'.a ((k22' a).a ((k27' a).a ((k28' a).a (k12'.a ((k22' b).a (k29'.a ((f' (Wk (AV.v (Value.bool !GQ' b y2')) j')).a (k20'.a t'))))))))))))))))) := by kernel_rfl
noncomputable section
abbrev k30' (q0 : ByteArray) : Cnd := (f' (Wk (AV.v (Value.bool !GQ' q0 y2')) g'))
abbrev k31' (q0 : ByteArray) : Cnd := (f' (Five 55 ∧ q0.size ≤ 4000000))
end
theorem eC' (W : World) (s a b c : ByteArray) (F : HP) : wRun cnLn (hLn s a b c [a, b, c] 3 false false false false false true false true) [] W CU' [sv s, .ptr 0 0] [(0, rqO nil0 nil0 nilP nilB)] [0] F = VT.leaf (b' false) [some (AO.cells [s' nil0,s' nil0,e',e'] 64)] 1101 ((k21' s a b c 1100).a (k18'.a (k12'.a ((k22' a).a ((k24' a).a (k12'.a ((k22' a).a ((k26' a).a (k12'.a ((k22' a).a ((k27' a).a ((k28' a).a (k12'.a ((k22' b).a (k29'.a ((k30' b).a (k12'.a ((k22' b).a ((k31' b).a ((f' (Wk (AV.v (Value.bool !qIn 55 b)) j')).a (k20'.a t'))))))))))))))))))))) := by kernel_rfl
noncomputable section
abbrev y3' : ByteArray := ByteArray.mk (Array.mk [72, 84, 84, 80, 47, 49, 46, 49])
abbrev k32' (q0 : ByteArray) : Cnd := (f' (Wk (AV.v (Value.bool !q0.toList == [y3'.get! 0,y3'.get! 1,y3'.get! 2,y3'.get! 3,y3'.get! 4,y3'.get! 5,y3'.get! 6,y3'.get! 7])) j'))
end
theorem eB' (W : World) (s a b c : ByteArray) (F : HP) : wRun cnLn (hLn s a b c [a, b, c] 3 false false false false false false true true) [] W CU' [sv s, .ptr 0 0] [(0, rqO nil0 nil0 nilP nilB)] [0] F = VT.leaf (b' false) [some (AO.cells [s' nil0,s' nil0,e',e'] 64)] 1101 ((k21' s a b c 1100).a (k18'.a (k12'.a ((k22' a).a ((k24' a).a (k12'.a ((k22' a).a ((k26' a).a (k12'.a ((k22' a).a ((k27' a).a ((k28' a).a (k12'.a ((k22' b).a (k29'.a ((k30' b).a (k12'.a ((k22' b).a ((k31' b).a ((f' (Wk (AV.v (Value.bool !qIn 55 b)) g')).a (k12'.a ((k22' c).a ((k32' c).a (k20'.a t')))))))))))))))))))))))) := by kernel_rfl
noncomputable section
abbrev k33' (q0 : ByteArray) : Cnd := (f' (Wk (AV.v (Value.bool !q0.toList == [y3'.get! 0,y3'.get! 1,y3'.get! 2,y3'.get! 3,y3'.get! 4,y3'.get! 5,y3'.get! 6,y3'.get! 7])) g'))
abbrev k34' : Cnd := (f' (Wk g' g'))
end
theorem eA' (W : World) (s a b c : ByteArray) (F : HP) : wRun cnLn (hLn s a b c [a, b, c] 3 false false false false false false false false) [] W CU' [sv s, .ptr 0 0] [(0, rqO nil0 nil0 nilP nilB)] [0] F = VT.leaf (b' true) [some (AO.cells [s' a,s' b,e',e'] 64)] 1101 ((k21' s a b c 1100).a (k18'.a (k12'.a ((k22' a).a ((k24' a).a (k12'.a ((k22' a).a ((k26' a).a (k12'.a ((k22' a).a ((k27' a).a ((k28' a).a (k12'.a ((k22' b).a (k29'.a ((k30' b).a (k12'.a ((k22' b).a ((k31' b).a ((f' (Wk (AV.v (Value.bool !qIn 55 b)) g')).a (k12'.a ((k22' c).a ((k33' c).a (k34'.a (k12'.a ((k22' a).a (k12'.a ((k22' b).a (k12'.a (k12'.a t')))))))))))))))))))))))))))))) := by kernel_rfl
def gGr : List AV → AP Nat := fun args => match args with
 | [.agg [_, _, .slice a _ _ _ _, _], _] => .ret a
 | _ => .fail "get"
def nm0 (a : Nat) : Nat → Nat := fun k => match Nat.beq k 0 with
 | true => a
 | false => k
def cGet (L : Hds) (m t name v : ByteArray) (ok : Bool) : List AV → Option (AP AV) := mkC gGr (fun _ => True) nm0 (fun _ => [rqV m t (sP 0 L.length) nilB, sv name]) (fun _ => [(0, rP L)]) (fun _ => .leaf .ret [.tuple [sv v, bv ok]] [(0, rP L)])
def HV' (m t name : ByteArray) : List AV → Option (AP AV) := mkC gG0 (fun _ => True) (fun _ k => k) (fun _ => [rqV m t nilP nilB, sv name]) (fun _ => []) (fun _ => .leaf .ret [.tuple [sv nil0, bv false]] [])
def hHd (nm vl lw tv gv : ByteArray) (ok n1 b1 b2 b3 r1 tw b5 : Bool) : B4' := AB' [(fHdr, 1, 1, hv (.tuple [sv nm, sv vl, .lit ok])), (fHdr, 2, 1, hv (.lit n1)), (fHdr, 2, 4, hv (.lit b1)), (fHdr, 2, 9, hv (.lit b2)), (fHdr, 2, 14, hv (.lit b3)), (fHdr, 2, 15, hv (.lit r1)), (fHdr, 4, 1, hv (sv lw)), (fHdr, 5, 4, hv (.tuple [sv gv, .lit tw])), (fHdr, 6, 3, hv (.lit b5)), (fHdr, 8, 7, hv (sv tv))]
noncomputable section
abbrev y4' : ByteArray := ByteArray.mk (Array.mk [58])
abbrev k35' (q0 q1 q2 : ByteArray) : Cnd := ((p' (q0.size < 4294967281)).a (f' (Wk (AV.tuple [s' (cut1 q0 y4'),s' (cut2 q0 y4'),b' (cutK q0 y4')]) (AV.tuple [s' q1,s' q2,g']))))
abbrev k36' : Cnd := (f' (Wk (b' true) j'))
end
theorem Y2' (W : World) (s m t nm vl lw tv : ByteArray) (F : HP) : wRun [(fCut, cCut), (fAll, cAll), (BO', cLow), (D5', D6'), (fGet, HV' m t lw)] (hHd nm vl lw tv nil0 false true false false false true false false) [] W fHdr [sv s, .ptr 0 0] [(0, rqO m t nilP nilB)] [0, 1100, 1101, 1102] F = VT.leaf (b' false) [some (AO.cells [s' m,s' t,e',e'] 64),none,none,none] 1100 ((k35' s nm vl).a (k36'.a (k20'.a t'))) := by kernel_rfl
theorem Y9' (W : World) (L : Hds) (s m t nm vl lw tv gv : ByteArray) (F : HP) : wRun [(fCut, cCut), (fAll, cAll), (BO', cLow), (D5', D6')] (hHd nm vl lw tv gv false true false false false true false false) [] W fHdr [sv s, .ptr 0 0] [(0, rqO m t (sP 1000 L.length) nilB), (1000, rP L)] [0, 1000, 1100, 1101, 1102] F = VT.leaf (b' false) [some (AO.cells [s' m,s' t,AV.slice 1000 0 (List.length L) 2 (Cp.lo (List.length L)),e'] 64),some (AO.cells (rowV encP L) 78),none,none,none] 1100 ((k35' s nm vl).a (k36'.a (k20'.a t'))) := by kernel_rfl
noncomputable section
abbrev k37' (q0 q1 q2 : ByteArray) : Cnd := ((p' (q0.size < 4294967281)).a (f' (Wk (AV.tuple [s' (cut1 q0 y4'),s' (cut2 q0 y4'),b' (cutK q0 y4')]) (AV.tuple [s' q1,s' q2,j']))))
end
theorem Y1' (W : World) (s m t nm vl lw tv : ByteArray) (F : HP) : wRun [(fCut, cCut), (fAll, cAll), (BO', cLow), (D5', D6'), (fGet, HV' m t lw)] (hHd nm vl lw tv nil0 true false true false false true false false) [] W fHdr [sv s, .ptr 0 0] [(0, rqO m t nilP nilB)] [0, 1100, 1101, 1102] F = VT.leaf (b' false) [some (AO.cells [s' m,s' t,e',e'] 64),none,none,none] 1100 ((k37' s nm vl).a (k18'.a ((k23' nm).a (k20'.a t')))) := by kernel_rfl
theorem Y8' (W : World) (L : Hds) (s m t nm vl lw tv gv : ByteArray) (F : HP) : wRun [(fCut, cCut), (fAll, cAll), (BO', cLow), (D5', D6')] (hHd nm vl lw tv gv true false true false false true false false) [] W fHdr [sv s, .ptr 0 0] [(0, rqO m t (sP 1000 L.length) nilB), (1000, rP L)] [0, 1000, 1100, 1101, 1102] F = VT.leaf (b' false) [some (AO.cells [s' m,s' t,AV.slice 1000 0 (List.length L) 2 (Cp.lo (List.length L)),e'] 64),some (AO.cells (rowV encP L) 78),none,none,none] 1100 ((k37' s nm vl).a (k18'.a ((k23' nm).a (k20'.a t')))) := by kernel_rfl
noncomputable section
abbrev k38' (q0 : ByteArray) : Cnd := (f' (Five 56 ∧ q0.size ≤ 4000000))
end
theorem Y0' (W : World) (s m t nm vl lw tv : ByteArray) (F : HP) : wRun [(fCut, cCut), (fAll, cAll), (BO', cLow), (D5', D6'), (fGet, HV' m t lw)] (hHd nm vl lw tv nil0 true false false true false true false false) [] W fHdr [sv s, .ptr 0 0] [(0, rqO m t nilP nilB)] [0, 1100, 1101, 1102] F = VT.leaf (b' false) [some (AO.cells [s' m,s' t,e',e'] 64),none,none,none] 1100 ((k37' s nm vl).a (k18'.a ((k24' nm).a ((k38' nm).a ((f' (Wk (AV.v (Value.bool !qIn 56 nm)) j')).a (k20'.a t')))))) := by kernel_rfl
theorem Y7' (W : World) (L : Hds) (s m t nm vl lw tv gv : ByteArray) (F : HP) : wRun [(fCut, cCut), (fAll, cAll), (BO', cLow), (D5', D6')] (hHd nm vl lw tv gv true false false true false true false false) [] W fHdr [sv s, .ptr 0 0] [(0, rqO m t (sP 1000 L.length) nilB), (1000, rP L)] [0, 1000, 1100, 1101, 1102] F = VT.leaf (b' false) [some (AO.cells [s' m,s' t,AV.slice 1000 0 (List.length L) 2 (Cp.lo (List.length L)),e'] 64),some (AO.cells (rowV encP L) 78),none,none,none] 1100 ((k37' s nm vl).a (k18'.a ((k24' nm).a ((k38' nm).a ((f' (Wk (AV.v (Value.bool !qIn 56 nm)) j')).a (k20'.a t')))))) := by kernel_rfl
noncomputable section
abbrev k39' (q0 : ByteArray) : Cnd := (f' (Wk (AV.v (Value.bool !qIn 56 q0)) g'))
abbrev k40' (q0 : ByteArray) : Cnd := (f' (Five 57 ∧ q0.size ≤ 4000000))
end
theorem XZ' (W : World) (s m t nm vl lw tv : ByteArray) (F : HP) : wRun [(fCut, cCut), (fAll, cAll), (BO', cLow), (D5', D6'), (fGet, HV' m t lw)] (hHd nm vl lw tv nil0 true false false false true true false false) [] W fHdr [sv s, .ptr 0 0] [(0, rqO m t nilP nilB)] [0, 1100, 1101, 1102] F = VT.leaf (b' false) [some (AO.cells [s' m,s' t,e',e'] 64),none,none,none] 1100 ((k37' s nm vl).a (k18'.a ((k24' nm).a ((k38' nm).a ((k39' nm).a ((k40' vl).a ((f' (Wk (AV.v (Value.bool !qIn 57 vl)) j')).a (k20'.a t')))))))) := by kernel_rfl
theorem Y6' (W : World) (L : Hds) (s m t nm vl lw tv gv : ByteArray) (F : HP) : wRun [(fCut, cCut), (fAll, cAll), (BO', cLow), (D5', D6')] (hHd nm vl lw tv gv true false false false true true false false) [] W fHdr [sv s, .ptr 0 0] [(0, rqO m t (sP 1000 L.length) nilB), (1000, rP L)] [0, 1000, 1100, 1101, 1102] F = VT.leaf (b' false) [some (AO.cells [s' m,s' t,AV.slice 1000 0 (List.length L) 2 (Cp.lo (List.length L)),e'] 64),some (AO.cells (rowV encP L) 78),none,none,none] 1100 ((k37' s nm vl).a (k18'.a ((k24' nm).a ((k38' nm).a ((k39' nm).a ((k40' vl).a ((f' (Wk (AV.v (Value.bool !qIn 57 vl)) j')).a (k20'.a t')))))))) := by kernel_rfl
noncomputable section
abbrev k41' (q0 : ByteArray) : Cnd := (f' (Wk (AV.v (Value.bool !qIn 57 q0)) g'))
abbrev k42' (q0 q1 : ByteArray) : Cnd := ((p' (q0.size ≤ 140737488355328 ∧ IO' q0)).a (f' (Wk (s' (lowB q0)) (s' q1))))
abbrev k43' (q0 q1 : ByteArray) (q2 : Nat) (q3 : Hds) : Cnd := ((p' (true = true)).a (f' ([s' q0,s' q1,AV.slice q2 0 (List.length q3) 2 (Cp.lo (List.length q3)),e'] = [s' q0,s' q1,AV.slice q2 0 (List.length q3) 2 (Cp.lo (List.length q3)),e'])))
end
theorem Y5' (W : World) (L : Hds) (s m t nm vl lw tv gv : ByteArray) (F : HP) : wRun [(fCut, cCut), (fAll, cAll), (BO', cLow), (D5', D6'), (fGet, cGet L m t lw gv true)] (hHd nm vl lw tv gv true false false false false false true false) [] W fHdr [sv s, .ptr 0 0] [(0, rqO m t (sP 1000 L.length) nilB), (1000, rP L)] [0, 1000, 1100, 1101, 1102] F = VT.leaf (b' false) [some (AO.cells [s' m,s' t,AV.slice 1000 0 (List.length L) 2 (Cp.lo (List.length L)),e'] 64),some (AO.cells (AV.rens (sgN (nm0 1000) [] 0) (rowV encP L)) 78),none,none,none] 1100 ((k37' s nm vl).a (k18'.a ((k24' nm).a ((k38' nm).a ((k39' nm).a ((k40' vl).a ((k41' vl).a (k34'.a ((k42' nm lw).a ((k43' m t 1000 L).a (((Cnd.p True).a ((p' (VW [AV.agg [s' m,s' t,AV.slice 1000 0 (List.length L) 2 (Cp.lo (List.length L)),e'],s' lw] [AV.agg [s' m,s' t,AV.slice 1000 0 (List.length L) 2 (Cp.lo (List.length L)),e'],s' lw])).a ((p' (OW (AO.cells (rowV encP L) 78) (AO.cells (AV.rens (nm0 1000) (rowV encP L)) 78))).a (f' (Wk (AV.tuple [s' gv,b' true]) (AV.tuple [s' gv,j'])))))).a t'))))))))))) := by kernel_rfl
noncomputable section
abbrev y5' : ByteArray := ByteArray.mk (Array.mk [116, 114, 97, 110, 115, 102, 101, 114, 45, 101, 110, 99, 111, 100, 105, 110, 103])
abbrev k44' (q0 q1 : ByteArray) : Cnd := ((p' (true = true)).a (f' ([s' q0,s' q1,e',e'] = [s' q0,s' q1,e',e'])))
abbrev k45' (q0 q1 q2 : ByteArray) : Cnd := ((p' True).a ((p' (VW [AV.agg [s' q0,s' q1,e',e'],s' q2] [AV.agg [s' q0,s' q1,e',e'],s' q2])).a (f' (Wk (AV.tuple [s' nil0,b' false]) (AV.tuple [s' nil0,g'])))))
abbrev k46' (q0 : ByteArray) : Cnd := (f' (Wk (b' (q0.toList == [y5'.get! 0,y5'.get! 1,y5'.get! 2,y5'.get! 3,y5'.get! 4,y5'.get! 5,y5'.get! 6,y5'.get! 7,y5'.get! 8,y5'.get! 9,y5'.get! 10,y5'.get! 11,y5'.get! 12,y5'.get! 13,y5'.get! 14,y5'.get! 15,y5'.get! 16])) j'))
end
theorem XY' (W : World) (s m t nm vl lw tv : ByteArray) (F : HP) : wRun [(fCut, cCut), (fAll, cAll), (BO', cLow), (D5', D6'), (fGet, HV' m t lw)] (hHd nm vl lw tv nil0 true false false false false false false true) [] W fHdr [sv s, .ptr 0 0] [(0, rqO m t nilP nilB)] [0, 1100, 1101, 1102] F = VT.leaf (b' false) [some (AO.cells [s' m,s' t,e',e'] 64),none,none,none] 1100 ((k37' s nm vl).a (k18'.a ((k24' nm).a ((k38' nm).a ((k39' nm).a ((k40' vl).a ((k41' vl).a (k34'.a ((k42' nm lw).a ((k44' m t).a ((k45' m t lw).a ((k46' lw).a t')))))))))))) := by kernel_rfl
noncomputable section
abbrev k47' (q0 q1 : ByteArray) (q2 : Nat) (q3 : Hds) (q4 q5 : ByteArray) : Cnd := ((p' True).a ((p' (VW [AV.agg [s' q0,s' q1,AV.slice q2 0 (List.length q3) 2 (Cp.lo (List.length q3)),e'],s' q4] [AV.agg [s' q0,s' q1,AV.slice q2 0 (List.length q3) 2 (Cp.lo (List.length q3)),e'],s' q4])).a ((p' (OW (AO.cells (rowV encP q3) 78) (AO.cells (AV.rens (nm0 q2) (rowV encP q3)) 78))).a (f' (Wk (AV.tuple [s' q5,b' false]) (AV.tuple [s' q5,g']))))))
end
theorem Y4' (W : World) (L : Hds) (s m t nm vl lw tv gv : ByteArray) (F : HP) : wRun [(fCut, cCut), (fAll, cAll), (BO', cLow), (D5', D6'), (fGet, cGet L m t lw gv false)] (hHd nm vl lw tv gv true false false false false false false true) [] W fHdr [sv s, .ptr 0 0] [(0, rqO m t (sP 1000 L.length) nilB), (1000, rP L)] [0, 1000, 1100, 1101, 1102] F = VT.leaf (b' false) [some (AO.cells [s' m,s' t,AV.slice 1000 0 (List.length L) 2 (Cp.lo (List.length L)),e'] 64),some (AO.cells (AV.rens (sgN (nm0 1000) [] 0) (rowV encP L)) 78),none,none,none] 1100 ((k37' s nm vl).a (k18'.a ((k24' nm).a ((k38' nm).a ((k39' nm).a ((k40' vl).a ((k41' vl).a (k34'.a ((k42' nm lw).a ((k43' m t 1000 L).a ((k47' m t 1000 L lw gv).a ((k46' lw).a t')))))))))))) := by kernel_rfl
noncomputable section
abbrev y6' : ByteArray := ByteArray.mk (Array.mk [32, 9])
abbrev k48' (q0 : ByteArray) : Cnd := (f' (Wk (b' (q0.toList == [y5'.get! 0,y5'.get! 1,y5'.get! 2,y5'.get! 3,y5'.get! 4,y5'.get! 5,y5'.get! 6,y5'.get! 7,y5'.get! 8,y5'.get! 9,y5'.get! 10,y5'.get! 11,y5'.get! 12,y5'.get! 13,y5'.get! 14,y5'.get! 15,y5'.get! 16])) g'))
abbrev k49' (q0 q1 : ByteArray) : Cnd := ((p' (q0.size < 4294967281 ∧ 2 < 4294967281 ∧ IO' y6')).a (f' (Wk (s' (BY' q0 y6')) (s' q1))))
abbrev k50' : Cnd := ((p' (true = true)).a ((p' (true = true)).a ((p' (true = true)).a ((p' (true = true)).a ((p' (true = true)).a (f' (true = true)))))))
end
theorem XX' (W : World) (s m t nm vl lw tv : ByteArray) (F : HP) : wRun [(fCut, cCut), (fAll, cAll), (BO', cLow), (D5', D6'), (fGet, HV' m t lw)] (hHd nm vl lw tv nil0 true false false false false false false false) [] W fHdr [sv s, .ptr 0 0] [(0, rqO m t nilP nilB)] [0, 1100, 1101, 1102] F = VT.leaf (b' true) [some (AO.cells [s' m,s' t,AV.slice 1101 0 1 2 (Cp.lo 1),e'] 64),some (AO.cells [s' lw,s' tv] 78),some (AO.cells [s' lw,s' tv] 78),none] 1102 ((k37' s nm vl).a (k18'.a ((k24' nm).a ((k38' nm).a ((k39' nm).a ((k40' vl).a ((k41' vl).a (k34'.a ((k42' nm lw).a ((k44' m t).a ((k45' m t lw).a ((k48' lw).a (k12'.a ((k49' vl tv).a (k50'.a (k12'.a t')))))))))))))))) := by kernel_rfl
noncomputable section
abbrev k51' (q0 : Hds) (q1 : Nat) : Cnd := ((p' (true = true)).a ((p' (true = true)).a ((p' (true = true)).a ((p' (true = true)).a ((p' ((0 + List.length q0 * 2).ble (AV.rens (sgN (nm0 q1) [] 0) (rowV encP q0)).length = true)).a ((p' (((List.length q0 + 1) * 32).ble 140737488355328 = true)).a ((p' ((List.length q0 + 1).ble 9223372036854775807 = true)).a (f' ((List.take (List.length q0 * 2) (List.drop 0 (AV.rens (sgN (nm0 q1) [] 0) (rowV encP q0)))).length.beq (List.length q0 * 2) = true)))))))))
end
theorem Y3' (W : World) (L : Hds) (s m t nm vl lw tv gv : ByteArray) (F : HP) : wRun [(fCut, cCut), (fAll, cAll), (BO', cLow), (D5', D6'), (fGet, cGet L m t lw gv false)] (hHd nm vl lw tv gv true false false false false false false false) [] W fHdr [sv s, .ptr 0 0] [(0, rqO m t (sP 1000 L.length) nilB), (1000, rP L)] [0, 1000, 1100, 1101, 1102] F = VT.leaf (b' true) [some (AO.cells [s' m,s' t,AV.slice 1101 0 (List.length L + 1) 2 (Cp.lo (List.length L + 1)),e'] 64),none,some (AO.cells [s' lw,s' tv] 78),some (AO.cells (List.take (List.length L * 2) (List.drop 0 (AV.rens (sgN (nm0 1000) [] 0) (rowV encP L))) ++ [s' lw,s' tv]) 78),none] 1102 ((k37' s nm vl).a (k18'.a ((k24' nm).a ((k38' nm).a ((k39' nm).a ((k40' vl).a ((k41' vl).a (k34'.a ((k42' nm lw).a ((k43' m t 1000 L).a ((k47' m t 1000 L lw gv).a ((k48' lw).a (k12'.a ((k49' vl tv).a ((k51' L 1000).a (k12'.a t')))))))))))))))) := by kernel_rfl
def hLe (v : ByteArray) (ok n1 b1 b2 b3 r : Bool) : B4' := AB' [(fLen, 1, 1, hv (.tuple [sv v, .lit ok])), (fLen, 2, 1, hv (.lit n1)), (fLen, 4, 1, hv (.lit b1)), (fLen, 4, 5, hv (.lit b2)), (fLen, 4, 10, hv (.lit b3)), (fLen, 4, 11, hv (.lit r))]
noncomputable section
abbrev y7' : ByteArray := ByteArray.mk (Array.mk [99, 111, 110, 116, 101, 110, 116, 45, 108, 101, 110, 103, 116, 104])
end
theorem eR' (W : World) (m t : ByteArray) (F : HP) : wRun [(fGet, HV' m t clB)] (hLe nil0 false true false false false false) [] W fLen [rqV m t nilP nilB] [] [] F = VT.leaf (AV.tuple [i' 0,b' true]) [] 1101 ((k44' m t).a (((Cnd.p True).a ((p' (VW [AV.agg [s' m,s' t,e',e'],s' y7'] [AV.agg [s' m,s' t,e',e'],s' clB])).a (f' (Wk (AV.tuple [s' nil0,b' false]) (AV.tuple [s' nil0,g']))))).a (k36'.a t'))) := by kernel_rfl
noncomputable section
abbrev k52' (q0 q1 : ByteArray) (q2 : Hds) : Cnd := ((p' (true = true)).a (f' ([s' q0,s' q1,AV.slice 0 0 (List.length q2) 2 (Cp.lo (List.length q2)),e'] = [s' q0,s' q1,AV.slice 0 0 (List.length q2) 2 (Cp.lo (List.length q2)),e'])))
end
theorem eQ' (W : World) (L : Hds) (m t v : ByteArray) (F : HP) : wRun [(fGet, cGet L m t clB v false), (fAll, cAll)] (hLe v false true false false false false) [] W fLen [rqV m t (sP 0 L.length) nilB] [(0, rP L)] [0] F = VT.leaf (AV.tuple [i' 0,b' true]) [some (AO.cells (AV.rens (sgN (nm0 0) [] 0) (rowV encP L)) 78)] 1101 ((k52' m t L).a (((Cnd.p True).a ((p' (VW [AV.agg [s' m,s' t,AV.slice 0 0 (List.length L) 2 (Cp.lo (List.length L)),e'],s' y7'] [AV.agg [s' m,s' t,AV.slice 0 0 (List.length L) 2 (Cp.lo (List.length L)),e'],s' clB])).a ((p' (OW (AO.cells (rowV encP L) 78) (AO.cells (AV.rens (nm0 0) (rowV encP L)) 78))).a (f' (Wk (AV.tuple [s' v,b' false]) (AV.tuple [s' v,g'])))))).a (k36'.a t'))) := by kernel_rfl
noncomputable section
abbrev k53' (q0 q1 : ByteArray) (q2 : Hds) (q3 : ByteArray) : Cnd := ((p' True).a ((p' (VW [AV.agg [s' q0,s' q1,AV.slice 0 0 (List.length q2) 2 (Cp.lo (List.length q2)),e'],s' y7'] [AV.agg [s' q0,s' q1,AV.slice 0 0 (List.length q2) 2 (Cp.lo (List.length q2)),e'],s' clB])).a ((p' (OW (AO.cells (rowV encP q2) 78) (AO.cells (AV.rens (nm0 0) (rowV encP q2)) 78))).a (f' (Wk (AV.tuple [s' q3,b' true]) (AV.tuple [s' q3,j']))))))
end
theorem eP' (W : World) (L : Hds) (m t v : ByteArray) (F : HP) : wRun [(fGet, cGet L m t clB v true), (fAll, cAll)] (hLe v true false true false false true) [] W fLen [rqV m t (sP 0 L.length) nilB] [(0, rP L)] [0] F = VT.leaf (AV.tuple [i' 0,b' false]) [some (AO.cells (AV.rens (sgN (nm0 0) [] 0) (rowV encP L)) 78)] 1101 ((k52' m t L).a ((k53' m t L v).a (k18'.a ((k23' v).a (k20'.a t'))))) := by kernel_rfl
noncomputable section
abbrev k54' (q0 : ByteArray) : Cnd := (f' (Wk (b' (decide (↑q0.size > Int.ofNat 9))) j'))
end
theorem UH' (W : World) (L : Hds) (m t v : ByteArray) (F : HP) : wRun [(fGet, cGet L m t clB v true), (fAll, cAll)] (hLe v true false false true false true) [] W fLen [rqV m t (sP 0 L.length) nilB] [(0, rP L)] [0] F = VT.leaf (AV.tuple [i' 0,b' false]) [some (AO.cells (AV.rens (sgN (nm0 0) [] 0) (rowV encP L)) 78)] 1101 ((k52' m t L).a ((k53' m t L v).a (k18'.a ((k24' v).a ((k54' v).a (k20'.a t')))))) := by kernel_rfl
noncomputable section
abbrev k55' (q0 : ByteArray) : Cnd := (f' (Wk (b' (decide (↑q0.size > Int.ofNat 9))) g'))
end
theorem eO' (W : World) (L : Hds) (m t v : ByteArray) (F : HP) : wRun [(fGet, cGet L m t clB v true), (fAll, cAll)] (hLe v true false false false true true) [] W fLen [rqV m t (sP 0 L.length) nilB] [(0, rP L)] [0] F = VT.leaf (AV.tuple [i' 0,b' false]) [some (AO.cells (AV.rens (sgN (nm0 0) [] 0) (rowV encP L)) 78)] 1101 ((k52' m t L).a ((k53' m t L v).a (k18'.a ((k24' v).a ((k55' v).a ((f' (Five 60 ∧ v.size ≤ 4000000)).a ((f' (Wk (AV.v (Value.bool !qIn 60 v)) j')).a (k20'.a t')))))))) := by kernel_rfl
theorem eN' (W : World) (L : Hds) (m t v : ByteArray) (z : Int) (F : HP) : wRun [(fGet, cGet L m t clB v true), (fAll, cAll), (h7', i4' v z)] (hLe v true false false false false false) [] W fLen [rqV m t (sP 0 L.length) nilB] [(0, rP L)] [0] F = VT.leaf (AV.tuple [z' z,b' true]) [some (AO.cells (AV.rens (sgN (nm0 0) [] 0) (rowV encP L)) 78)] 1101 ((k52' m t L).a ((k53' m t L v).a (k18'.a ((k24' v).a ((k55' v).a ((f' (Five 60 ∧ v.size ≤ 4000000)).a ((f' (Wk (AV.v (Value.bool !qIn 60 v)) g')).a (k34'.a ((f' (v = v)).a t'))))))))) := by kernel_rfl
end
end Go.Proofs.YtpijbbobejeemaaGreatDoor.Htp
