/- Parts of the proof, merged. -/
import Derived.Test.YtgahllbgipdchaaGreatDoorWrn2
import Derived.Test.YtgahllbgipdchaaGreatDoorEngClosed
noncomputable section
set_option linter.unusedVariables false
set_option linter.unusedSimpArgs false
set_option maxRecDepth 100000
set_option linter.unusedSectionVars false
namespace Go.Proofs.YtgahllbgipdchaaGreatDoor.Wk
open Go Go.RowKit Eng Kit Tree
open Int renaming ofNat -> o'
open AO renaming cells -> ce'
open AV renaming ptr -> pt'
open Cnd renaming p -> cp'
open Cnd renaming holds -> ch'
open List renaming length_append -> la'
open List renaming length_cons -> lc'
open List renaming length_drop -> ld'
open Go.Value renaming slice -> sl'
variable {W w : World} {vs A : List AV} {p k n m : Nat} {f : FuncId} {C : Mem} {H0 H' : LH} {us us' sz sz' : Int} {N : Names} {v : AV} {args : List Value}
structure Rs where
 d : Bs
 a : Option Addr
 c : Nat
def Rs.val (r : Rs) : Value := .slice r.a r.d.length r.c
structure At1 (C : Mem) (x : Rs) : Prop where
 at' : BAt C x.a x.d
 cap : x.d.length <= x.c
def PB (r : List Rs) (C : Mem) : Prop := ∀ x ∈ r, At1 C x
theorem PB.snoc {r : List Rs} {x : Rs} (h : PB r C) (hx : At1 C x) : PB (r ++ [x]) C := fun y hy => by
 rcases List.mem_append.1 hy with hy | hy
 ·exact h y hy
 ·rw [List.mem_singleton.1 hy]; exact hx
theorem At1.mono {C' : Mem} (h : ∀ a v, C a = some v -> C' a = some v) {x : Rs} (hx : At1 C x) : At1 C' x := ⟨hx.at'.mono h, hx.cap⟩
theorem PB.mono {C' : Mem} (h : ∀ a v, C a = some v -> C' a = some v) {r : List Rs} (hr : PB r C) : PB r C' := fun x hx => (hr x hx).mono h
def rwV (r : List Rs) : List Value := r.map Rs.val
def rbL (r : List Rs) : LH := [(0, .cells (vmap (rwV r)) tRb), (1009, .any (frz (PB r)))]
def rbO (ds : List Bs) : AO := .own .nothing (exHP (fun r : List Rs => r.map (·.d) = ds) rbL)
theorem V3' {D : Nat -> Prop} {l : Bs} {y : Value} (hb : l.length <= big) (hp : 0 < l.length) (ho : OR N k (rB l) D w) (h : VR N (sB k l.length) y) : ∃ a c, y = .slice (some a) l.length c /\ BAt (GN' D w) (some a) l /\ l.length <= c := by
 have h0c := h; obtain ⟨lo, x, c, h1, rfl, h3⟩ := IW' h
 have hcap : l.length <= c := by
  simp only [sB, VR] at h0c; obtain ⟨l', x', c', _, e2, _, _, _, e6⟩ := h0c; simp only [Value.slice.injEq] at e2; rw [e2.2.2]; exact e6
 rw [show rB l = .cells (vmap (l.map fun b => .int .u8 b.toNat)) (2 * 5) by rw [rB, DX']] at ho
 obtain ⟨lo', h1', h0, h2⟩ := JH' ho; rw [h1] at h1'; cases h1'
 refine ⟨_, _, rfl, ⟨hb, fun i b hi => ⟨_, rfl, ?_⟩⟩, hcap⟩
 rw [h3 hp, h0, Nat.mul_one]; have hq := h2 i (.int .u8 b.toNat) (by rw [List.getElem?_map, hi]; rfl)
 have e : ((Addr.mk lo.blk 0 none).add i) = Addr.mk lo.blk i none := by
  unfold Addr.add; split
  ·rename_i hi; subst hi; rfl
  ·show Addr.mk lo.blk (0 + i) none = _; rw [Nat.zero_add]
 rw [e]; exact hq
def oWx (r : List Rs) (d : Bs) : LH := [(1006, .cells (vmap (rwV r) ++ [sB 1007 d.length]) tRb), (1009, .any (frz (PB r))), (1007, rB d)]
def oW (r : List Rs) : LH := [(1006, .cells (vmap (rwV r)) tRb), (1009, .any (frz (PB r)))]
theorem P8' (r : List Rs) (x : Rs) : rwV (r ++ [x]) = rwV r ++ [x.val] := by rw [rwV, List.map_append]; rfl
theorem st_rb {W0 : World} {F : HP} {ys : List Value} {r : List Rs} {d : Bs} (hb : d.length <= big) (hp : 0 < d.length)
  (hs : St W0 F N (oWx r d) vs ys w) (hv : ∀ r', AV.cls (fun n => Nat.blt n 1000 || (getO (oW r') n).isSome) vs) : ∃ x : Rs, x.d = d /\ St W0 F N (oW (r ++ [x])) vs ys w := by
 obtain ⟨c, hc⟩ := RD' rfl hs 1006 1009 [1007] δ δ δ (a := vmap (rwV r)) (b := [sB 1007 d.length]) (e := tRb) rfl rfl (fun N1 D w h => h.lt)
  (fun c C => PB r C /\ ∃ x : Rs, x.d = d /\ c = [x.val] /\ At1 C x) (fun N1 D hD yb hy => by
   have hP : PB r (GN' (D 1009) w) := (hD 1009 _ rfl).1; obtain ⟨y, r0, q1, q2, rfl⟩ := hy; have q2 : r0 = [] := q2; subst q2; obtain ⟨a, cp, rfl, hB, hC⟩ := V3' hb hp (hD 1007 _ rfl) q1
   exact ⟨[.slice (some a) d.length cp], rfl, VRs.vmap _, hP.mono (EX' fun b hb => .inl hb), ⟨d, some a, cp⟩, rfl, rfl, ⟨hB.mono (EX' fun b hb => .inr ⟨1007, List.mem_cons_self, ⟨_, rfl⟩, hb⟩), hC⟩⟩)
 obtain ⟨⟨C0, _, x, hx, rfl, _⟩, hc⟩ := hc; refine ⟨x, hx, hc _ (PB (r ++ [x])) rfl ?_ rfl (fun C ⟨h1, x', h2, h3, h4⟩ => ?_) (fun n o h1 h2 h3 => ?_) (hv _) (A0' (BM' _ _) (A0' Ye A2'))⟩
 ·show some (ce' (vmap (rwV (r ++ [x]))) tRb) = _; rw [P8', ET']
 ·have e : x' = x := by
   obtain ⟨d1, a1, c1⟩ := x; obtain ⟨d2, a2, c2⟩ := x'; simp only at hx h2; subst hx h2; simp only [Rs.val, List.cons.injEq, Value.slice.injEq, and_true, true_and] at h3; obtain ⟨rfl, rfl⟩ := h3; rfl
  rw [e] at h4; exact h1.snoc h4
 ·simp only [oW, getO, if_neg h1, if_neg h2] at h3; cases h3
theorem CD' {σ : Nat -> Nat} : ∀ (a b : List AV), AV.rens σ (a ++ b) = AV.rens σ a ++ AV.rens σ b
 | [], b => rfl
 | x :: a, b => by simp only [List.cons_append, AV.rens, CD' a b]
theorem Rk_ow {W0 : World} {F : HP} {O : AO} {P Q : Mem -> Prop} {ys : List Value} (h : St W0 F N [(1006, O), (1009, .any (frz P))] vs ys w) (hP : ∀ C, P C -> Q C) : St W0 F N [(1006, O), (1009, .any (frz Q))] vs ys w := by
 obtain ⟨N', g1, g2, r, hv⟩ := h; obtain ⟨D0, D, h1, h2, h3⟩ := r.sat
 have hf : ∀ (P : Mem -> Prop) i, (AQ' [(1006, O), (1009, .any (frz P))]).find i = getO [(1006, O), (1009, .any (frz P))] i := fun P => AK' χ
 refine ⟨N', g1, fun j hj hg => g2 j hj (by simp only [getO] at hg ⊢; split at hg <;> simp_all), ⟨r.os, r.tape, r.output, D0, D, h1, fun i o hi => ?_, fun i j o o' hi hj hij => ?_⟩, hv⟩
 ·rw [hf] at hi; simp only [getO] at hi
  by_cases e0 : i = 1006
  ·rw [if_pos e0] at hi; exact h2 i o (by rw [hf]; simp only [getO, if_pos e0]; exact hi)
  ·rw [if_neg e0] at hi
   by_cases e1 : i = 1009
   ·rw [if_pos e1] at hi; cases hi; have := h2 i (.any (frz P)) (by rw [hf]; simp only [getO, if_neg e0, if_pos e1]); exact ⟨⟨hP _ this.1.1, this.1.2⟩, this.2⟩
   ·rw [if_neg e1] at hi; cases hi
 ·rw [hf] at hi hj
  have key : ∀ i o, getO [(1006, O), (1009, .any (frz Q))] i = some o -> ∃ o', getO [(1006, O), (1009, .any (frz P))] i = some o' := fun i o h => by
   simp only [getO] at h ⊢
   by_cases e0 : i = 1006
   ·rw [if_pos e0]; exact ⟨_, rfl⟩
   ·rw [if_neg e0] at h ⊢
    by_cases e1 : i = 1009
    ·rw [if_pos e1]; exact ⟨_, rfl⟩
    ·rw [if_neg e1] at h; cases h
  obtain ⟨p, hp⟩ := key i o hi; obtain ⟨q, hq⟩ := key j o' hj; exact h3 i j p q (by rw [hf]; exact hp) (by rw [hf]; exact hq) hij
def endR (r : List Rs) : Nat := (cat (r.map (·.d))).length
theorem DP' (r : List Rs) (x : Rs) : endR (r ++ [x]) = endR r + (8 + x.d.length) := by rw [endR, List.map_append, List.map_cons, List.map_nil, G0', la', B2']; rfl
def xR : List Rs -> AV
 | [] => nilS
 | x :: r => slW (r.length + 1)
def oR : List Rs -> AO
 | [] => dumZ
 | x :: r => .cells (vmap (rwV (x :: r))) tRb
theorem QX' {r : List Rs} (h : r ≠ []) : xR r = slW r.length /\ oR r = .cells (vmap (rwV r)) tRb := by
 cases r with
 | nil => exact absurd rfl h
 | cons x r => exact ⟨rfl, rfl⟩
theorem L6' {r : List Rs} (h : r ≠ []) : ∃ s, endR r = s + 1 := by
 cases r with
 | nil => exact absurd rfl h
 | cons x r => exact ⟨endR (x :: r) - 1, by
   have : 8 <= endR (x :: r) := by rw [endR, List.map_cons, DB', la', B2']; omega
   omega⟩
def subA (oa : Option Addr) (c e : Nat) : Option Addr := match e with
 | 0 => oa
 | s + 1 => if c = s + 1 then oa else Option.map (fun x => Addr.mk x.block (x.off + (s + 1) * 1) none) oa
theorem P5' {oa : Option Addr} {l : Bs} {c : Nat} (h : BAt C oa l) (hc : l.length <= c) (e : Nat) : BAt C (subA oa c e) (l.drop e) := by
 cases e with
 | zero => exact h
 | succ s =>
  unfold subA; simp only; split
  ·rename_i hcs; rw [List.drop_eq_nil_of_le ω]
   exact ⟨Nat.zero_le _, fun i b hb => by simp at hb⟩
  ·cases oa with
   | none =>
    have : l.drop (s + 1) = [] := by
     cases hl : l with
     | nil => rfl
     | cons x r =>
      obtain ⟨a, e, _⟩ := h.2 0 x (by rw [hl]; rfl); cases e
    rw [this]; exact ⟨Nat.zero_le _, fun i b hb => by simp at hb⟩
   | some a =>
    have := h.drop (s + 1)
    have e2 : a.add (s + 1) = Addr.mk a.block (a.off + (s + 1) * 1) none := by unfold Addr.add; rw [if_neg ω, Nat.mul_one]
    rw [e2] at this; exact this
structure WS (l : Bs) (r : List Rs) : Prop where
 le : endR r <= l.length
 wh : AA' l = r.map (·.d) ++ AA' (l.drop (endR r))
theorem WS.zero (l : Bs) : WS l [] := ⟨Nat.zero_le _, by rfl⟩
theorem WS.next {l : Bs} {r : List Rs} (h : WS l r) {d : Bs} (hu : unwB (l.drop (endR r)) = some d) (x : Rs) (hx : x.d = d) : WS l (r ++ [x]) := by
 have hl := GY' hu; rw [ld'] at hl; have h1 := h.le; refine ⟨by rw [DP', hx]; omega, ?_⟩; rw [h.wh, GK' hu, List.map_append, List.map_cons, List.map_nil, hx, DP', hx, List.drop_drop, List.append_assoc]; rfl
theorem WS.done {l : Bs} {r : List Rs} (h : WS l r) (hu : unwB (l.drop (endR r)) = none) : r.map (·.d) = AA' l := by
 rw [h.wh, BS' hu, List.append_nil]
theorem OF' {ob : Option Addr} {e : Nat} (h : Tri Θ W fUn [slV ob m k] [] (.tuple [nilS, iv 0, iv (o' e)]) []) (F : HP) (hF : AF' W F) : C1OK Θ F fUn (cUnE ob m k e) :=
 AX' hF (fun _ => .tuple [nilS, iv 0, iv (o' e)]) (fun _ => RO.ret _) (fun _ => rfl) (fun _ _ => h) fun _ => ⟨rfl, rfl, ⟨Ye, Ye⟩, A2', ⟨⟨Ye, Ye, Ye, Ye⟩, Ye⟩, A2'⟩
theorem SL' {ob : Option Addr} (h : Tri Θ W fUn [slV ob m k] [] (.tuple [nilS, iv 8, iv 0]) []) (F : HP) (hF : AF' W F) : C1OK Θ F fUn (cUnZ ob m k) :=
 AX' hF (fun _ => .tuple [nilS, iv 8, iv 0]) (fun _ => RO.ret _) (fun _ => rfl) (fun _ _ => h) fun _ => ⟨rfl, rfl, ⟨Ye, Ye⟩, A2', ⟨⟨Ye, Ye, Ye, Ye⟩, Ye⟩, A2'⟩
theorem SM' {ob : Option Addr} {q : Nat} {d : Bs} (h : Tri Θ W fUn [slV ob m k] [] (.tuple [sB 1000 p, iv (o' q), iv 0]) [(1000, rB d)]) (F : HP) (hF : AF' W F) : C1OK Θ F fUn (cUnS ob m k p q d) :=
 AX' hF (fun _ => .tuple [sB 1000 p, iv (o' q), iv 0]) (fun _ => RO.ret _) (fun _ => rfl) (fun _ _ => h) fun _ => ⟨rfl, rfl, ⟨Ye, Ye⟩, A2', ⟨⟨rfl, Ye, Ye, Ye⟩, Ye⟩, A0' (AB' _ _) A2'⟩
theorem NB' {a b : Nat} (h : a + b < 9223372036854775808) : IntKind.i64.wrap (o' a + o' b) = o' (a + b) := by
 rw [show (o' a + o' b : Int) = ((a + b : Nat) : Int) by simp]
 exact D5' h
theorem W6' (W : World) (hN : LN W) (oa : Option Addr) (c : Nat) (l : Bs) (h : BAt W.cell? oa l) (hc : l.length <= c) (hsz : l.length <= 1099511627776) :
  CTri Θ W (.loop (A4' fWh 1)) (tms 0 26 (aWh oa l.length c (xR []) (endR []))) (oWh (oR []) (PB [])) (fun _ : {r : List Rs // r.map (·.d) = AA' l} => .ret) (fun q => tms 0 26 [(2, xR q.1), (3, iv (o' (endR q.1)))]) (fun q => oWh (oR q.1) (PB q.1)) := by
 have hlb : l.length <= 140737488351232 := h.1
 refine SF' (W := W) (g := fWh) (b := A4' fWh 1) (σ := {r : List Rs // WS l r}) (ρ := {r : List Rs // r.map (·.d) = AA' l}) 26 (fun z => aWh oa l.length c (xR z.1) (endR z.1)) (fun z => oWh (oR z.1) (PB z.1)) (fun _ => .ret) (fun q => [(2, xR q.1), (3, iv (o' (endR q.1)))]) (fun q => oWh (oR q.1) (PB q.1)) (fun _ h => by cases h) (fun z => l.length + 1 - endR z.1) kWh [0, 2, 3] (fun _ => rfl) ?_ ⟨[], WS.zero l⟩
 rintro ⟨r, hr⟩; simp only; have hle0 := hr.le; have hD := P5' h hc (endR r)
 have hDc : (l.drop (endR r)).length <= c - endR r := by rw [ld']; omega
 have hDl : (l.drop (endR r)).length = l.length - endR r := ld'
 cases hu : unwB (l.drop (endR r)) with
 | none =>
  obtain ⟨e, he, hT⟩ := NO' W hN _ _ _ hD hDc hu
  obtain ⟨eR, rfl⟩ : ∃ eR, e = eR + 1 := ⟨e - 1, by omega⟩
  have ene : (o' (eR + 1) != o' 0) = true := bne_iff_ne.2 fun q => by have := Int.ofNat.inj q; omega
  have hcon := fun F hF => OF' hT F hF
  have hdone := hr.done hu
  by_cases h0 : r = []
  ·subst h0; have ev : sl' oa l.length c = sl' (subA oa c 0) (l.drop 0).length (c - 0) := rfl
   refine ⟨[(fUn, cUnE (subA oa c 0) (l.drop 0).length (c - 0) (eR + 1))], hWh (subA oa c 0) (l.drop 0).length (c - 0) 0 true, [], _, rfl, Goes.refl _ _, fun F hF => BA' (hcon F hF), fun _ _ => noL, fun F => ?_⟩
   refine Yj (TX' W oa l.length c (l.drop 0).length (c - 0) eR (subA oa c 0) dumZ (PB []) F) ⟨⟨?_, rfl, [(2, xR []), (3, iv (o' (endR [])))], oWh (oR []) (PB []), [(1006, 1006), (1009, 1009)], rfl, ⟨χ, by kernel_rfl, ⟨Ya, Ya, Ye⟩, ⟨_, rfl, Yc⟩, ⟨_, rfl, Yc⟩, Ye⟩, fun W0 F N ys w hst => .inr ⟨⟨[], hdone⟩, rfl, hst⟩⟩⟩
   exact Cw5'
  ·obtain ⟨s, hs⟩ := L6' h0; obtain ⟨x1, x2⟩ := QX' h0; rw [hs] at hcon hle0 hDl; have hle : s + 1 <= l.length := hle0
   have ev : sl' (if c = s + 1 then oa else Option.map (fun x => Addr.mk x.block (x.off + (s + 1) * 1) none) oa) (l.length - (s + 1)) (c - (s + 1)) = sl' (subA oa c (s + 1)) (l.drop (s + 1)).length (c - (s + 1)) := by rw [ld']; rfl
   rw [x1, x2, hs]
   refine ⟨[(fUn, cUnE (subA oa c (s + 1)) (l.drop (s + 1)).length (c - (s + 1)) (eR + 1))], hWh (subA oa c (s + 1)) (l.drop (s + 1)).length (c - (s + 1)) 0 true, [], _, rfl, Goes.refl _ _, fun F hF => BA' (hcon F hF), fun _ _ => noL, fun F => ?_⟩
   refine Yj (PH' W oa l.length c (l.drop (s + 1)).length (c - (s + 1)) eR s r.length (subA oa c (s + 1)) (rwV r) (PB r) F) ⟨⟨?_, rfl, [(2, slW r.length), (3, iv (o' (s + 1)))], oWh (.cells (vmap (rwV r)) tRb) (PB r), [(1006, 1006), (1009, 1009)], rfl, ⟨χ, by kernel_rfl, ⟨Ya, Ya, Ye⟩, ⟨_, rfl, OW.of_eq (by simp only [AO.ren, AW'])⟩, ⟨_, rfl, Yc⟩, Ye⟩, fun W0 F N ys w hst => .inr ⟨⟨r, hdone⟩, rfl, by rw [x1, x2, hs]; exact hst⟩⟩⟩
   exact Cw5'
 | some d =>
  have hul := GY' hu; rw [hDl] at hul
  have hdb : d.length <= big := by show _ <= 140737488351232; omega
  have hz8 : (r.length + 1) * 8 <= endR r + 8 := by
   have : ∀ q : List Rs, q.length * 8 <= endR q := by
    intro q
    induction q with
    | nil => exact Nat.zero_le _
    | cons y q ih =>
     rw [endR] at ih; rw [endR, List.map_cons, DB', la', B2', lc']; omega
   have := this r; omega
  have hfin : ∀ (v : AV) W0 F N ys w (x : Rs), x.d = d -> St W0 F N (oW (r ++ [x])) (tms 0 26 (aWh oa l.length c (slW (r.length + 1)) (endR r + (8 + d.length)))) ys w -> ∃ s' : {r : List Rs // WS l r}, l.length + 1 - endR s'.1 < l.length + 1 - endR r /\ St W0 F N (oWh (oR s'.1) (PB s'.1)) (tms 0 26 (aWh oa l.length c (xR s'.1) (endR s'.1))) ys w := by
   intro v W0 F N ys w x hx hst
   refine ⟨⟨r ++ [x], hr.next hu x hx⟩, by simp only; rw [DP', hx]; omega, ?_⟩
   obtain ⟨y1, y2⟩ := QX' (r := r ++ [x]) (by simp); simp only; rw [y1, y2, DP', hx, la']; exact hst
  have hcl : ∀ n e r', AV.cls (fun i => Nat.blt i 1000 || (getO (oW r') i).isSome) (tms 0 26 (aWh oa l.length c (slW n) e)) := fun n e r' => H0' (A0' Ye (A0' rfl (A0' Ye A2')))
  by_cases hd : d = []
  ·subst hd; have hT := V0' W hN _ _ _ hD hDc hu
   have hcon := fun F hF => SL' hT F hF
   have hadd : ∀ W0 F N ys w, St W0 F N [(1006, .cells (vmap (rwV r) ++ [nilS]) tRb), (1009, .any (frz (PB r)))] (tms 0 26 (aWh oa l.length c (slW (r.length + 1)) (endR r + 8))) ys w -> St W0 F N (oW (r ++ [⟨[], none, 0⟩])) (tms 0 26 (aWh oa l.length c (slW (r.length + 1)) (endR r + (8 + ([] : Bs).length)))) ys w := fun W0 F N ys w hst => by
    have e : vmap (rwV (r ++ [⟨[], none, 0⟩])) = vmap (rwV r) ++ [nilS] := by rw [P8', ET']; rfl
    unfold oW; rw [e]
    exact Rk_ow hst fun C h => h.snoc ⟨⟨Nat.zero_le _, fun i b hb => by simp at hb⟩, Yd⟩
   by_cases h0 : r = []
   ·subst h0; have ev : sl' oa l.length c = sl' (subA oa c 0) (l.drop 0).length (c - 0) := rfl; have ew := NB' (a := 0) (b := 8) δ
    refine ⟨[(fUn, cUnZ (subA oa c 0) (l.drop 0).length (c - 0))], hWh (subA oa c 0) (l.drop 0).length (c - 0) (0 + 8) false, [], _, rfl, Goes.refl _ _, fun F hF => BA' (hcon F hF), fun _ _ => noL, fun F => ?_⟩
    refine Yj (PG' W oa l.length c (l.drop 0).length (c - 0) (0 + 8) (subA oa c 0) dumZ (PB []) F) ⟨⟨?_, rfl, aWh oa l.length c (slW 1) (0 + 8), [(1006, .cells [nilS] tRb), (1009, .any (frz (PB [])))], [(1006, 1101), (1009, 1009)], rfl, ⟨χ, by kernel_rfl, ⟨Ya, Ya, Ya, Ye⟩, ⟨_, rfl, Yc⟩, ⟨_, rfl, Yc⟩, Ye⟩, fun W0 F N ys w hst => .inl ⟨rfl, hfin nilS W0 F N ys w ⟨[], none, 0⟩ rfl (hadd W0 F N ys w hst)⟩⟩⟩
    exact Cw6'
   ·obtain ⟨s, hs⟩ := L6' h0; obtain ⟨x1, x2⟩ := QX' h0; have hfin' := hfin; have hadd' := hadd; rw [hs] at hcon hle0 hDl hul hz8 hfin' hadd'; have hle : s + 1 <= l.length := hle0
    have ev : sl' (if c = s + 1 then oa else Option.map (fun x => Addr.mk x.block (x.off + (s + 1) * 1) none) oa) (l.length - (s + 1)) (c - (s + 1)) = sl' (subA oa c (s + 1)) (l.drop (s + 1)).length (c - (s + 1)) := by rw [ld']; rfl
    have ew := NB' (a := s + 1) (b := 8) ω; have k1 : (0 + r.length * 1).ble (vmap (rwV r)).length = true := AP' (by rw [BF', rwV, List.length_map]; omega); have k2 : ((r.length + 1) * 24).ble 140737488355328 = true := AP' ω; have k3 : (r.length + 1).ble 9223372036854775807 = true := AP' ω
    have ktk : List.take (r.length * 1) (List.drop 0 (vmap (rwV r))) = vmap (rwV r) := by rw [List.drop_zero, List.take_of_length_le (by rw [BF', rwV, List.length_map]; omega)]
    have k4 : (List.take (r.length * 1) (List.drop 0 (vmap (rwV r)))).length.beq (r.length * 1) = true := by rw [ktk, BF', rwV, List.length_map, Nat.mul_one]; exact Nat.beq_refl _
    rw [x1, x2, hs]
    refine ⟨[(fUn, cUnZ (subA oa c (s + 1)) (l.drop (s + 1)).length (c - (s + 1)))], hWh (subA oa c (s + 1)) (l.drop (s + 1)).length (c - (s + 1)) (s + 1 + 8) false, [], _, rfl, Goes.refl _ _, fun F hF => BA' (hcon F hF), fun _ _ => noL, fun F => ?_⟩
    refine Yj (TU' W oa l.length c (l.drop (s + 1)).length (c - (s + 1)) (s + 1 + 8) s r.length (subA oa c (s + 1)) (rwV r) (PB r) F) ⟨⟨?_, rfl, aWh oa l.length c (slW (r.length + 1)) (s + 1 + 8), [(1006, .cells (vmap (rwV r) ++ [nilS]) tRb), (1009, .any (frz (PB r)))], [(1006, 1101), (1009, 1009)], rfl, ⟨χ, by kernel_rfl, ⟨Ya, Ya, Ya, Ye⟩, ⟨_, rfl, by rw [ktk]; exact OW.of_eq (by simp only [AO.ren, CD', AW']; rfl)⟩, ⟨_, rfl, Yc⟩, Ye⟩, fun W0 F N ys w hst => .inl ⟨rfl, hfin' nilS W0 F N ys w ⟨[], none, 0⟩ rfl (hadd' W0 F N ys w hst)⟩⟩⟩
    exact Cw7'
  ·have hp : 0 < d.length := List.length_pos_iff.2 hd; have hT := R6' W hN _ _ _ d hD hDc hu hd
   have hcon := fun F hF => SM' hT F hF
   have hadd : ∀ W0 F N ys w, St W0 F N (oWx r d) (tms 0 26 (aWh oa l.length c (slW (r.length + 1)) (endR r + (8 + d.length)))) ys w -> ∃ x : Rs, x.d = d /\ St W0 F N (oW (r ++ [x])) (tms 0 26 (aWh oa l.length c (slW (r.length + 1)) (endR r + (8 + d.length)))) ys w := fun W0 F N ys w hst => st_rb hdb hp hst (hcl _ _)
   by_cases h0 : r = []
   ·subst h0; have ev : sl' oa l.length c = sl' (subA oa c 0) (l.drop 0).length (c - 0) := rfl; have ew := NB' (a := 0) (b := 8 + d.length) (by show 0 + (8 + d.length) < _; simp only [endR] at hul; omega)
    refine ⟨[(fUn, cUnS (subA oa c 0) (l.drop 0).length (c - 0) d.length (8 + d.length) d)], hWh (subA oa c 0) (l.drop 0).length (c - 0) (0 + (8 + d.length)) false, [], _, rfl, Goes.refl _ _, fun F hF => BA' (hcon F hF), fun _ _ => noL, fun F => ?_⟩
    refine Yj (TW' W oa l.length c (l.drop 0).length (c - 0) d.length (8 + d.length) (0 + (8 + d.length)) (subA oa c 0) d dumZ (PB []) F) ⟨⟨?_, rfl, aWh oa l.length c (slW 1) (0 + (8 + d.length)), oWx [] d, [(1006, 1102), (1009, 1009), (1007, 1100)], rfl, ⟨χ, by kernel_rfl, ⟨Ya, Ya, Ya, Ye⟩, ⟨_, rfl, Yc⟩, ⟨_, rfl, Yc⟩, ⟨_, rfl, A5' (A1' _ _) rfl⟩, Ye⟩, fun W0 F N ys w hst => .inl ⟨rfl, by
     obtain ⟨x, q1, q2⟩ := hadd W0 F N ys w hst
     exact hfin nilS W0 F N ys w x q1 q2⟩⟩⟩
    exact Cw6'
   ·obtain ⟨s, hs⟩ := L6' h0; obtain ⟨x1, x2⟩ := QX' h0; have hfin' := hfin; have hadd' := hadd; rw [hs] at hcon hle0 hDl hul hz8 hfin' hadd'; have hle : s + 1 <= l.length := hle0
    have ev : sl' (if c = s + 1 then oa else Option.map (fun x => Addr.mk x.block (x.off + (s + 1) * 1) none) oa) (l.length - (s + 1)) (c - (s + 1)) = sl' (subA oa c (s + 1)) (l.drop (s + 1)).length (c - (s + 1)) := by rw [ld']; rfl
    have ew := NB' (a := s + 1) (b := 8 + d.length) ω; have k1 : (0 + r.length * 1).ble (vmap (rwV r)).length = true := AP' (by rw [BF', rwV, List.length_map]; omega); have k2 : ((r.length + 1) * 24).ble 140737488355328 = true := AP' ω; have k3 : (r.length + 1).ble 9223372036854775807 = true := AP' ω
    have ktk : List.take (r.length * 1) (List.drop 0 (vmap (rwV r))) = vmap (rwV r) := by rw [List.drop_zero, List.take_of_length_le (by rw [BF', rwV, List.length_map]; omega)]
    have k4 : (List.take (r.length * 1) (List.drop 0 (vmap (rwV r)))).length.beq (r.length * 1) = true := by rw [ktk, BF', rwV, List.length_map, Nat.mul_one]; exact Nat.beq_refl _
    rw [x1, x2, hs]
    refine ⟨[(fUn, cUnS (subA oa c (s + 1)) (l.drop (s + 1)).length (c - (s + 1)) d.length (8 + d.length) d)], hWh (subA oa c (s + 1)) (l.drop (s + 1)).length (c - (s + 1)) (s + 1 + (8 + d.length)) false, [], _, rfl, Goes.refl _ _, fun F hF => BA' (hcon F hF), fun _ _ => noL, fun F => ?_⟩
    refine Yj (TV' W oa l.length c (l.drop (s + 1)).length (c - (s + 1)) d.length (8 + d.length) (s + 1 + (8 + d.length)) s r.length (subA oa c (s + 1)) d (rwV r) (PB r) F) ⟨⟨?_, rfl, aWh oa l.length c (slW (r.length + 1)) (s + 1 + (8 + d.length)), oWx r d, [(1006, 1102), (1009, 1009), (1007, 1100)], rfl, ⟨χ, by kernel_rfl, ⟨Ya, Ya, Ya, Ye⟩, ⟨_, rfl, by rw [ktk]; exact OW.of_eq (by simp only [AO.ren, CD', AW']; rfl)⟩, ⟨_, rfl, Yc⟩, ⟨_, rfl, A5' (A1' _ _) rfl⟩, Ye⟩, fun W0 F N ys w hst => .inl ⟨rfl, by
     obtain ⟨x, q1, q2⟩ := hadd' W0 F N ys w hst
     exact hfin' nilS W0 F N ys w x q1 q2⟩⟩⟩
    exact Cw7'
theorem QZ' : Goes vs [] vs (oWh dumZ (PB [])) := by
 refine Goes.trans (CL' (k := 1006) (H' := [(1006, dumZ)]) (fun C => trivial) rfl rfl rfl δ rfl (fun n hn => ?_)) (CL' (k := 1009) (P := PB []) (fun C x hx => by cases hx) rfl rfl rfl δ rfl (fun n hn => ?_))
 ·simp only [getO, if_neg hn]
 ·simp only [oWh, getO]
  by_cases e : n = 1006
  ·simp only [if_pos e]
  ·simp only [if_neg e, if_neg hn]
theorem R0' (W : World) (hN : LN W) (oa : Option Addr) (c : Nat) (l : Bs) (h : BAt W.cell? oa l) (hc : l.length <= c) (hsz : l.length <= 1099511627776) {x : AV} {e : Nat} (hx : ∀ r : List Rs, r.map (·.d) = AA' l -> Goes (tms 0 26 [(2, xR r), (3, iv (o' (endR r)))]) (oWh (oR r) (PB r)) (tms 0 26 [(2, x), (3, iv (o' e))]) H') :
  LTri Θ W (A4' fWh 1) (tms 0 26 (aWh oa l.length c nilS 0)) [] .ret (tms 0 26 [(2, x), (3, iv (o' e))]) H' := by
 have hl := CTri.pre (W6' W hN oa c l h hc hsz) (QZ' (vs := tms 0 26 (aWh oa l.length c nilS 0)))
 have hl2 : CTri Θ W (.loop (A4' fWh 1)) (tms 0 26 (aWh oa l.length c nilS 0)) [] (fun _ : Unit => .ret) (fun _ => tms 0 26 [(2, x), (3, iv (o' e))]) (fun _ => H') := hl.post fun q => ⟨(), rfl, hx q.1 q.2⟩
 exact fun W0 F N w a Q hF hN r ha hK => hl2 W0 F N w a Q hF hN r ha fun _ => hK
theorem UV' (W : World) (hN : LN W) (oa : Option Addr) (c : Nat) (l : Bs) (h : BAt W.cell? oa l) (hc : l.length <= c) (hsz : l.length <= 1099511627776) (hw : AA' l = []) : Tri Θ W fWh [slV oa l.length c] [] (.tuple [nilS, iv 0]) [] := by
 have hl := R0' W hN oa c l h hc hsz (x := nilS) (e := 0) (H' := []) fun r hr => by
  rw [hw] at hr; obtain rfl := List.map_eq_nil_iff.1 hr; exact EM' rfl rfl (Yb) (fun i o h => by cases h) (H0' (A0' Ye (A0' Ye A2'))) A2'
 have hL : ∀ F, AF' W F -> L1OK Θ F (A4' fWh 1) (lWh oa l.length c 0 nilS []) := fun F hF =>
  B7' hF (fun _ => RO.ret _) (fun _ _ => hl) fun _ => by
   simp only [RT.pick]; exact AY' rfl rfl (A0' Ye (A0' Ye (A0' Ye A2'))) A2' (A0' Ye (A0' Ye A2')) A2'
 refine AJ' (con := []) (hints := AV') (lc := [(fWh, 1, A4' fWh 1, lWh oa l.length c 0 nilS [])]) [] rfl (fun F _ => noC) (fun F hF => CK' (hL F hF)) fun F => ?_
 refine Yj (XN' W oa l.length c F) ⟨⟨?_, (AR' (vs' := [.tuple [nilS, iv 0]]) (H' := []) [] rfl rfl (Yb) trivial).fits rfl⟩⟩; exact Cw8'
theorem W5' (W : World) (hN : LN W) (oa : Option Addr) (c : Nat) (l : Bs) (h : BAt W.cell? oa l) (hc : l.length <= c) (hsz : l.length <= 1099511627776) (hw : AA' l ≠ []) : Tri Θ W fWh [slV oa l.length c] [] (.tuple [.slice 1000 0 (AA' l).length 1 (.lo (AA' l).length), iv (o' (cat (AA' l)).length)]) [(1000, rbO (AA' l))] := by
 have hl := R0' W hN oa c l h hc hsz (x := slW (AA' l).length) (e := (cat (AA' l)).length) (H' := [(1006, rbO (AA' l))]) fun r hr => by
  have hne : r ≠ [] := fun e => hw (by rw [<- hr, e]; rfl)
  obtain ⟨x1, x2⟩ := QX' hne
  have hlen : (AA' l).length = r.length := by rw [<- hr, List.length_map]
  have he : endR r = (cat (AA' l)).length := by rw [endR, hr]
  rw [x1, x2, hlen, he]
  refine Goes.trans ?_ (Goes.shutNew (R := fun r : List Rs => r.map (·.d) = AA' l) (L := rbL) (m := .nothing) 1006 δ r hr χ χ ⟨_, _, rfl, by kernel_rfl⟩ (H0' (A0' rfl (A0' Ye A2'))))
  have e2 : renL 1006 (rbL r) = oWh (.cells (vmap (rwV r)) tRb) (PB r) := by
   show [(1006, AO.ren _ (.cells (vmap (rwV r)) tRb)), (1009, AO.any (frz (PB r)))] = _; simp only [AO.ren, AW']; rfl
  rw [e2]; exact Goes.refl _ _
 have hL : ∀ F, AF' W F -> L1OK Θ F (A4' fWh 1) (lWh oa l.length c (cat (AA' l)).length (slW (AA' l).length) [(1006, rbO (AA' l))]) := fun F hF =>
  B7' hF (fun _ => RO.ret _) (fun _ _ => hl) fun _ => by
   simp only [RT.pick]; exact AY' rfl rfl (A0' Ye (A0' Ye (A0' Ye A2'))) A2' (A0' rfl (A0' Ye A2')) (A0' Ye A2')
 refine AJ' (con := []) (hints := AV') (lc := [(fWh, 1, A4' fWh 1, lWh oa l.length c (cat (AA' l)).length (slW (AA' l).length) [(1006, rbO (AA' l))])]) [1100, 1101, 1102] rfl (fun F _ => noC) (fun F hF => CK' (hL F hF)) fun F => ?_
 refine Yj (RT' W oa l.length c (cat (AA' l)).length (AA' l).length (rbO (AA' l)) F) ⟨⟨?_, (AR' (vs' := [.tuple [.slice 1000 0 (AA' l).length 1 (.lo (AA' l).length), iv (o' (cat (AA' l)).length)]]) (H' := [(1000, rbO (AA' l))]) [(1000, 1100)] χ χ (Yb) ⟨⟨_, rfl, Yc⟩, Ye⟩).fits rfl⟩⟩; exact Cw8'
abbrev L5' : Nat := 7
def nibV : List Value := [.int .u32 0, .int .u32 274646895, .int .u32 549293790, .int .u32 820201905, .int .u32 1098587580, .int .u32 1361435347, .int .u32 1640403810, .int .u32 1905808397, .int .u32 2197175160, .int .u32 2460548119, .int .u32 2722870694, .int .u32 2987750089, .int .u32 3280807620, .int .u32 3553878443, .int .u32 3811616794, .int .u32 4084100981]
def cfg : Cfg := { strs := [(49, 66, 9)], ints := [], same := [], clone := [], laid := [(1, nibV)] }
theorem cfg_ok : CfgOk Θ cfg where
 strs := fun x hx => by
  simp only [cfg, List.mem_cons, List.not_mem_nil, or_false] at hx; subst hx; exact ⟨χ, RE'⟩
 ints := fun x hx => by cases hx
 same := fun x hx => by cases hx
 clone := fun x hx => by cases hx
theorem nib_eq (j : Nat) (v : Value) (h : nibV[j]? = some v) : j < 16 /\ v = .int .u32 (o' (nb j)) := by
 rcases j with _|_|_|_|_|_|_|_|_|_|_|_|_|_|_|_|j
 all_goals first | (cases h; exact ⟨δ, rfl⟩) | (simp [nibV] at h)
theorem UM' (hN : LN w) : Q0' cfg w := by
 intro x hx j v hj; obtain rfl := List.mem_singleton.1 hx; obtain ⟨h1, rfl⟩ := nib_eq j v hj; have := hN.tab j h1; rw [Nat.mul_one] at this
 have e : (Addr.mk 1 0 none).add j = Addr.mk 1 j none := by
  unfold Addr.add; split
  ·rename_i h; subst h; rfl
  ·show Addr.mk _ (0 + j) none = _; rw [Nat.zero_add]
 rwa [e] at this
def valO : Out AV -> Option Value
 | .ok v _ _ _ _ => v.val?
 | .bad _ => none
def cndO : Out AV -> Cnd
 | .ok _ _ _ _ c => c
 | .bad _ => .t
theorem MY' {P : Program} {K : Cfg} (hK : CfgOk P K) (hm : P.follows .mixedOrders = true) {fuel : Nat} {x : Value} (he : ∀ w, valO ((CZ' P (envK P K w) fuel f (vmap args)).run true .nil 0 []) = some x) (hc : ∀ w, (cndO ((CZ' P (envK P K w) fuel f (vmap args)).run true .nil 0 [])).holds) (hL : Q0' K w) :
  Calls P f args.toArray w fun e w' => e = .returned x /\ Below w.heap.size w w' := by
 have he := he w; have hc := hc w
 cases hr : (CZ' P (envK P K w) fuel f (vmap args)).run true .nil 0 [] with
 | bad why => rw [hr] at he; cases he
 | ok v h' n' lg c =>
  rw [hr] at he hc; refine (DW' (SC' hK hL) hm (PO' hK w) (MW' P K w) hr hc (KW' w) (VRs.vmap args) (fun _ _ _ => rfl)).mono ?_; rintro e w' ⟨y, N', rfl, r', hv, _⟩; have : y = x := D6' he hv; subst this; exact ⟨rfl, r'.old_below⟩
set_option maxRecDepth 1000000 in
theorem Q4' (w : World) : cndO ((CZ' Θ (envK Θ cfg w) 100000 L5' (vmap [])).run true .nil 0 []) = (((((((cp' (0 = 0)).a Cnd.t).a Cnd.t).a Cnd.t).a Cnd.t).a Cnd.t).a Cnd.t).a Cnd.t := χ
set_option maxRecDepth 1000000 in
theorem M0' (hN : LN w) : Calls Θ L5' (List.toArray []) w fun e w' => e = .returned (.bool true) /\ Below w.heap.size w w' :=
 MY' (args := []) cfg_ok χ (fuel := 100000) (fun w => χ) (fun w => by rw [Q4']; simp [ch']) (w := w) (UM' hN)
theorem NP' (hN : LN W) {x : Value} (h : ∀ w, LN w -> Calls Θ f args.toArray w fun e w' => e = .returned x /\ Below w.heap.size w w') : Tri Θ W f (vmap args) [] (.v x) [] :=
 LY' fun W0 F N w vargs hF hNB r ha => by
  have : vargs = args.toArray := by
   have := VRs.of_vmap ha; rw [<- this]
  subst this; have r0 := r; obtain ⟨_, _, _, D0, _, hD0, _, _⟩ := r0; exact h w (hN.mono (CY' (hF D0 w hD0)))
def SN' : List AV -> Option (AP AV) := mkC (fun _ => .ret ()) (fun _ => True) (fun _ i => i) (fun _ => []) (fun _ => []) (fun _ => .leaf .ret [.v (.bool true)] [])
theorem QK' (hN : LN W) (F : HP) (hF : AF' W F) : C1OK Θ F L5' SN' :=
 AX' hF (fun _ => .v (.bool true)) (fun _ => RO.ret _) (fun _ => rfl) (fun _ _ => NP' hN (args := []) fun w h => M0' h) fun _ => ⟨rfl, rfl, Ye, A2', ⟨Ye, Ye⟩, A2'⟩
abbrev nmL : Δ := ⟨⟨[108, 111, 103]⟩⟩
abbrev nm1 : Δ := ⟨⟨[108, 111, 103, 46, 49]⟩⟩
abbrev nmD : Δ := ⟨⟨[108, 111, 103, 46]⟩⟩
abbrev nmO : Δ := ⟨⟨[49]⟩⟩
abbrev nmP : Δ := ⟨⟨[46]⟩⟩
abbrev fGn : Nat := 29
abbrev fCt : Nat := 31
abbrev fIt : Nat := 56
abbrev fCx : Nat := 52
abbrev fAt : Nat := 53
def cfgE : Cfg := { strs := [], ints := [], same := [], clone := [], laid := [] }
theorem DF' : CfgOk Θ cfgE := ⟨fun x hx => (by cases hx), fun x hx => (by cases hx), fun x hx => (by cases hx), fun x hx => (by cases hx)⟩
theorem HW' (W : World) : Tri Θ W fGn [sv nm1] [] (bv true) [] :=
 BW' (args := [.string nm1]) fun w => BH' (args := [.string nm1]) DF' χ (fuel := 1000) (fun w => χ) (w := w) (fun x hx => by cases hx)
theorem S6' (W : World) : Tri Θ W fGn [sv nmL] [] (bv true) [] :=
 BW' (args := [.string nmL]) fun w => BH' (args := [.string nmL]) DF' χ (fuel := 1000) (fun w => χ) (w := w) (fun x hx => by cases hx)
theorem KK' (W : World) : Tri Θ W fCt [sv nmL, sv nmP] [] (bv false) [] :=
 BW' (args := [.string nmL, .string nmP]) fun w => BH' (args := [.string nmL, .string nmP]) DF' χ (fuel := 1000) (fun w => χ) (w := w) (fun x hx => by cases hx)
theorem GB' (W : World) : Tri Θ W fIt [iv 1] [] (sv nmO) [] :=
 BW' (args := [.int .i64 1]) fun w => BH' (args := [.int .i64 1]) DF' χ (fuel := 1000) (fun w => χ) (w := w) (fun x hx => by cases hx)
theorem cx_tri (W : World) : Tri Θ W fCx [sv nm1, sv nmD] [] (.v (.tuple #[.string nmO, .bool true])) [] :=
 BW' (args := [.string nm1, .string nmD]) fun w => BH' (args := [.string nm1, .string nmD]) DF' χ (fuel := 1000) (fun w => χ) (w := w) (fun x hx => by cases hx)
theorem at_tri (W : World) : Tri Θ W fAt [sv nmO] [] (.v (.tuple #[.int .i64 1, .nilIface])) [] :=
 BW' (args := [.string nmO]) fun w => BH' (args := [.string nmO]) DF' χ (fuel := 1000) (fun w => χ) (w := w) (fun x hx => by cases hx)
def cK (A : List AV) (v : AV) : List AV -> Option (AP AV) := mkC (fun _ => .ret ()) (fun _ => True) (fun _ k => k) (fun _ => A) (fun _ => []) (fun _ => .leaf .ret [v] [])
theorem DQ' (h : Tri Θ default f A [] v []) (hA : ∀ K, AV.cls K A) (hv : ∀ K, AV.cl K v) (F : HP) : C1OK Θ F f (cK A v) :=
 AX' (W := default) B8' (fun _ => v) (fun _ => RO.ret _) (fun _ => rfl) (fun _ _ => h) fun _ => ⟨rfl, rfl, hA _, A2', ⟨hv _, Ye⟩, A2'⟩
noncomputable section
abbrev fAp : Nat := 21
abbrev fPt : Nat := 46
abbrev fFl : Nat := 37
abbrev fDa : Nat := 61
abbrev tDk : TypeId := 2 * 71
abbrev tFi : TypeId := 2 * 74
abbrev tPw : TypeId := 2 * 91
abbrev tLg : TypeId := 2 * 77
def pV (m : Nat) : AV := .slice 1005 0 m 3 (.lo m)
def dkC (PV : AV) (us : Int) : AO := .cells [.map 1001, PV, iv 1099511627776, iv us] tDk
def fiC (p q : Nat) : AO := .cells [sB 1003 p, sB 1004 q] tFi
def mpO (st ck : Nat) : AO := .map [(sv nm1, .ptr 1002 0, st)] ck
def lgC (sz : Int) : AO := .cells [.ptr 0 0, sv nmL, iv 1, iv sz] tLg
def uD (PV : AV) (us : Int) (st ck p q : Nat) (da sa : Bs) (O : AO) (PR : Mem -> Prop) : LH := [(0, dkC PV us), (1001, mpO st ck), (1002, fiC p q), (1003, rB da), (1004, rB sa), (1005, O), (1006, .any (frz PR))]
def kD : List Nat := [0, 1001, 1002, 1003, 1004, 1005, 1006, 2, 4, 1100, 1101, 1102, 1103, 1104, 1105, 1106, 1107, 1108]
def mSt : Nat := 0
def mCk : Nat := 1
def cWm (n : Nat) (w : Bs) : List AV -> Option (AP AV) := mkC (fun _ => .ret ()) (fun _ => True) (fun _ k => k) (fun _ => [.mt]) (fun _ => []) (fun _ => .leaf .ret [.tuple [sB 1000 n, iv 0]] [(1000, rB w)])
def cWo (m n : Nat) (r w : Bs) : List AV -> Option (AP AV) := mkC (fun args => match args with | .slice i _ _ _ _ :: _ => .ret i | _ => .fail "wrap") (fun _ => True) nmW (fun _ => [sB 0 m]) (fun _ => [(0, rB r)]) (fun _ => .leaf .ret [.tuple [sB 1000 n, iv 0]] [(0, rB r), (1000, rB w)])
def hAp (us' sz' : Int) : BD' := AC' [(fFl, 1, 4, hv (sv nmD)), (fFl, 1, 7, hv (sv nm1)), hf' fPt 2 1, hf' fDa 1 2, hf' fDa 3 8, hf' fDa 3 21, hf' fDa 6 1, (fDa, 11, 6, hv (iv us')), ht' fAp 2 1, (fAp, 3, 5, hv (iv sz'))]
def UJ' (n : Nat) (w : Bs) : E7' := [(fWp, cWm n w), (fIt, cK [iv 1] (sv nmO)), (fGn, cK [sv nm1] (bv true)), (fCl, cClB n w)]
def UI' (m n : Nat) (r w : Bs) : E7' := [(fWp, cWo m n r w), (fIt, cK [iv 1] (sv nmO)), (fGn, cK [sv nm1] (bv true)), (fCl, cClB n w)]
abbrev h35' (q0 : Int) (q1 : Nat) (q2 : Int) (z : Cnd) : Cnd := ((f' (Wk (b' true) j')).a ((ee' (z' q0)).a ((f' (Wk (z' (IntKind.i64.wrap (q0 + ↑q1))) (z' q2))).a ((fe' true).a z))))
abbrev k36' : Cnd := (ee' (i' 1))
theorem TZ' (W : World) (us us' sz sz' : Int) (st ck p q n : Nat) (da sa w : Bs) (O : AO) (PR : Mem -> Prop) (F : HP) : wRun (UJ' n w) (hAp us' sz') [] W fAp [.ptr 2 0, .mt] (uD nilS us st ck p q da sa O PR ++ [(2, lgC sz)]) kD F = VT.leaf (i' 0) [some (ce' [AV.map 1001,AV.slice 1103 0 1 3 (Cp.lo 1),i' 1099511627776,z' us'] 142),some (AO.map [(s' nm1,pt' 1002 0,st)] ck),some (ce' [AV.slice 1104 0 (p + n) 1 (Cp.lo (p + n)),AV.slice 1004 0 q 1 (Cp.lo q)] 148),none,some (ce' (rowV encB sa) 10),some O,some (AO.any (frz PR)),some (ce' [pt' 0 0,s' nmL,i' 1,z' sz'] 154),none,some (ce' (AV.rens (sgN (fun k => match k with | 0 => sgN ((fun x k => k) ()) (newL [(1000,rB w)]) 1100 1000 | k => k) [1000] 1101) (rowV encB w)) 10),some (ce' (AV.rens (sgN (fun k => match k with | 0 => sgN ((fun x k => k) ()) (newL [(1000,rB w)]) 1100 1000 | k => k) [1000] 1101) (rowV encB w)) 10),some (ce' [s' nm1,z' ↑p,AV.slice 1101 0 n 1 (Cp.lo n)] 182),some (ce' [s' nm1,z' ↑p,AV.slice 1101 0 n 1 (Cp.lo n)] 182),some (ce' (List.take (p * 1) (List.drop 0 (rowV encB da)) ++ List.take (n * 1) (List.drop 0 (AV.rens (sgN (fun k => match k with | 0 => sgN ((fun x k => k) ()) (newL [(1000,rB w)]) 1100 1000 | k => k) [1000] 1101) (rowV encB w)))) 10),none,none,none,none] 1105 (k36'.a ((((cp' True).a (f' (VW [AV.mt] [AV.mt]))).a ((f' (Wk (b' false) g')).a ((fe' true).a (((ee' (s' nmL)).a ((f' (Wk (s' (nmL ++ ByteArray.mk (Array.mk [46]))) (s' nmD))).a (((cp' True).a (f' (VW [i' 1] [i' 1]))).a ((f' (Wk (s' (nmD ++ nmO)) (s' nm1))).a t')))).a ((((cp' True).a (f' (VW [s' nm1] [s' nm1]))).a ((f' (Wk (b' false) g')).a ((ee' (i' 1099511627776)).a ((ee' (z' us)).a ((wb' (decide (o' 1099511627776 < us)) g').a ((ee' (i' 1099511627776)).a ((ee' (z' us)).a ((wb' (decide (↑n > IntKind.i64.wrap (o' 1099511627776 - us))) g').a ((fe' true).a ((f' (findKey Tryz.prog (envW [(60,cWm n w),(56,cK [i' 1] (s' nmO)),(29,cK [s' nm1] (b' true)),(30,cClB n w)] (hAp us' sz') [] W F) 9 (s' nm1) [(s' nm1,pt' 1002 0,st)] 0 = AP.ret (some (0,pt' 1002 0)))).a ((f' (Wk (b' false) g')).a ((fe' true).a ((fe' true).a (((cp' True).a ((vw' [AV.slice 1100 0 n 1 (Cp.lo n)]).a (f' (OW (ce' (AV.rens (sgN (fun k => k) [1000] 1100) (rowV encB w)) 10) (ce' (AV.rens (fun k => match k with | 0 => sgN ((fun x k => k) ()) (newL [(1000,rB w)]) 1100 1000 | k => k) (rowV encB w)) 10))))).a ((tt'.a (tt'.a (tt'.a (tt'.a (ee' true))))).a ((fe' true).a ((fe' true).a (((p' (n.ble n = true)).a ((p' ((List.take (n * 1) (List.drop 0 (AV.rens (sgN (fun k => match k with | 0 => sgN ((fun x k => k) ()) (newL [(1000,rB w)]) 1100 1000 | k => k) [1000] 1101) (rowV encB w)))).length.beq (n * 1) = true)).a ((p' ((List.take (n * 1) (List.drop 0 (AV.rens (sgN (fun k => match k with | 0 => sgN ((fun x k => k) ()) (newL [(1000,rB w)]) 1100 1000 | k => k) [1000] 1101) (rowV encB w)))).all AV.one = true)).a ((p' (Nat.blt 0 n = true)).a ((p' ((0 + p * 1).ble (rowV encB da).length = true)).a ((p' (((p + n) * 1).ble 140737488355328 = true)).a ((p' ((p + n).ble 9223372036854775807 = true)).a (f' ((List.take (p * 1) (List.drop 0 (rowV encB da))).length.beq (p * 1) = true))))))))).a ((fe' true).a ((ee' (z' us)).a ((f' (Wk (z' (IntKind.i64.wrap (us + ↑n))) (z' us'))).a ((fe' true).a t')))))))))))))))))))))).a t'))))).a (h35' sz n sz' k1'))) := χ
theorem U1' (W : World) (us us' sz sz' : Int) (st ck p q n z : Nat) (da sa w : Bs) (V : List Value) (PR : Mem -> Prop) (F : HP) : wRun (UJ' n w) (hAp us' sz') [] W fAp [.ptr 2 0, .mt] (uD (pV z) us st ck p q da sa (.cells (vmap V) tPw) PR ++ [(2, lgC sz)]) kD F = VT.leaf (i' 0) [some (ce' [AV.map 1001,AV.slice 1103 0 (z + 1) 3 (Cp.lo (z + 1)),i' 1099511627776,z' us'] 142),some (AO.map [(s' nm1,pt' 1002 0,st)] ck),some (ce' [AV.slice 1104 0 (p + n) 1 (Cp.lo (p + n)),AV.slice 1004 0 q 1 (Cp.lo q)] 148),none,some (ce' (rowV encB sa) 10),none,some (AO.any (frz PR)),some (ce' [pt' 0 0,s' nmL,i' 1,z' sz'] 154),none,some (ce' (AV.rens (sgN (fun k => match k with | 0 => sgN ((fun x k => k) ()) (newL [(1000,rB w)]) 1100 1000 | k => k) [1000] 1101) (rowV encB w)) 10),some (ce' (AV.rens (sgN (fun k => match k with | 0 => sgN ((fun x k => k) ()) (newL [(1000,rB w)]) 1100 1000 | k => k) [1000] 1101) (rowV encB w)) 10),some (ce' [s' nm1,z' ↑p,AV.slice 1101 0 n 1 (Cp.lo n)] 182),some (ce' (List.take (z * 3) (List.drop 0 (vmap V)) ++ [s' nm1,z' ↑p,AV.slice 1101 0 n 1 (Cp.lo n)]) 182),some (ce' (List.take (p * 1) (List.drop 0 (rowV encB da)) ++ List.take (n * 1) (List.drop 0 (AV.rens (sgN (fun k => match k with | 0 => sgN ((fun x k => k) ()) (newL [(1000,rB w)]) 1100 1000 | k => k) [1000] 1101) (rowV encB w)))) 10),none,none,none,none] 1105 (k36'.a ((((cp' True).a (f' (VW [AV.mt] [AV.mt]))).a ((f' (Wk (b' false) g')).a ((fe' true).a (((ee' (s' nmL)).a ((f' (Wk (s' (nmL ++ ByteArray.mk (Array.mk [46]))) (s' nmD))).a (((cp' True).a (f' (VW [i' 1] [i' 1]))).a ((f' (Wk (s' (nmD ++ nmO)) (s' nm1))).a t')))).a ((((cp' True).a (f' (VW [s' nm1] [s' nm1]))).a ((f' (Wk (b' false) g')).a ((ee' (i' 1099511627776)).a ((ee' (z' us)).a ((wb' (decide (o' 1099511627776 < us)) g').a ((ee' (i' 1099511627776)).a ((ee' (z' us)).a ((wb' (decide (↑n > IntKind.i64.wrap (o' 1099511627776 - us))) g').a ((fe' true).a ((f' (findKey Tryz.prog (envW [(60,cWm n w),(56,cK [i' 1] (s' nmO)),(29,cK [s' nm1] (b' true)),(30,cClB n w)] (hAp us' sz') [] W F) 9 (s' nm1) [(s' nm1,pt' 1002 0,st)] 0 = AP.ret (some (0,pt' 1002 0)))).a ((f' (Wk (b' false) g')).a ((fe' true).a ((fe' true).a (((cp' True).a ((vw' [AV.slice 1100 0 n 1 (Cp.lo n)]).a (f' (OW (ce' (AV.rens (sgN (fun k => k) [1000] 1100) (rowV encB w)) 10) (ce' (AV.rens (fun k => match k with | 0 => sgN ((fun x k => k) ()) (newL [(1000,rB w)]) 1100 1000 | k => k) (rowV encB w)) 10))))).a ((tt'.a (tt'.a (tt'.a (tt'.a ((p' ((0 + z * 3).ble (vmap V).length = true)).a ((p' (((z + 1) * 48).ble 140737488355328 = true)).a ((p' ((z + 1).ble 9223372036854775807 = true)).a (f' ((List.take (z * 3) (List.drop 0 (vmap V))).length.beq (z * 3) = true))))))))).a ((fe' true).a ((fe' true).a (((p' (n.ble n = true)).a ((p' ((List.take (n * 1) (List.drop 0 (AV.rens (sgN (fun k => match k with | 0 => sgN ((fun x k => k) ()) (newL [(1000,rB w)]) 1100 1000 | k => k) [1000] 1101) (rowV encB w)))).length.beq (n * 1) = true)).a ((p' ((List.take (n * 1) (List.drop 0 (AV.rens (sgN (fun k => match k with | 0 => sgN ((fun x k => k) ()) (newL [(1000,rB w)]) 1100 1000 | k => k) [1000] 1101) (rowV encB w)))).all AV.one = true)).a ((p' (Nat.blt 0 n = true)).a ((p' ((0 + p * 1).ble (rowV encB da).length = true)).a ((p' (((p + n) * 1).ble 140737488355328 = true)).a ((p' ((p + n).ble 9223372036854775807 = true)).a (f' ((List.take (p * 1) (List.drop 0 (rowV encB da))).length.beq (p * 1) = true))))))))).a ((fe' true).a ((ee' (z' us)).a ((f' (Wk (z' (IntKind.i64.wrap (us + ↑n))) (z' us'))).a ((fe' true).a t')))))))))))))))))))))).a t'))))).a (h35' sz n sz' k1'))) := χ
theorem TY' (W : World) (us us' sz sz' : Int) (st ck p q n m : Nat) (da sa r w : Bs) (O : AO) (PR : Mem -> Prop) (F : HP) : wRun (UI' m n r w) (hAp us' sz') [] W fAp [.ptr 2 0, sB 4 m] (uD nilS us st ck p q da sa O PR ++ [(2, lgC sz), (4, rB r)]) kD F = VT.leaf (i' 0) [some (ce' [AV.map 1001,AV.slice 1103 0 1 3 (Cp.lo 1),i' 1099511627776,z' us'] 142),some (AO.map [(s' nm1,pt' 1002 0,st)] ck),some (ce' [AV.slice 1104 0 (p + n) 1 (Cp.lo (p + n)),AV.slice 1004 0 q 1 (Cp.lo q)] 148),none,some (ce' (rowV encB sa) 10),some O,some (AO.any (frz PR)),some (ce' [pt' 0 0,s' nmL,i' 1,z' sz'] 154),some (ce' (AV.rens (sgN (nmW 4) [1000] 1100) (rowV encB r)) 10),some (ce' (AV.rens (sgN (fun k => match k with | 0 => sgN (nmW 4) (newL [(0,rB r),(1000,rB w)]) 1100 1000 | k => k) [1000] 1101) (rowV encB w)) 10),some (ce' (AV.rens (sgN (fun k => match k with | 0 => sgN (nmW 4) (newL [(0,rB r),(1000,rB w)]) 1100 1000 | k => k) [1000] 1101) (rowV encB w)) 10),some (ce' [s' nm1,z' ↑p,AV.slice 1101 0 n 1 (Cp.lo n)] 182),some (ce' [s' nm1,z' ↑p,AV.slice 1101 0 n 1 (Cp.lo n)] 182),some (ce' (List.take (p * 1) (List.drop 0 (rowV encB da)) ++ List.take (n * 1) (List.drop 0 (AV.rens (sgN (fun k => match k with | 0 => sgN (nmW 4) (newL [(0,rB r),(1000,rB w)]) 1100 1000 | k => k) [1000] 1101) (rowV encB w)))) 10),none,none,none,none] 1105 (k36'.a ((((cp' True).a ((vw' [AV.slice 4 0 m 1 (Cp.lo m)]).a (f' (OW (ce' (rowV encB r) 10) (ce' (AV.rens (nmW 4) (rowV encB r)) 10))))).a ((f' (Wk (b' false) g')).a ((fe' true).a (((ee' (s' nmL)).a ((f' (Wk (s' (nmL ++ ByteArray.mk (Array.mk [46]))) (s' nmD))).a (((cp' True).a (f' (VW [i' 1] [i' 1]))).a ((f' (Wk (s' (nmD ++ nmO)) (s' nm1))).a t')))).a ((((cp' True).a (f' (VW [s' nm1] [s' nm1]))).a ((f' (Wk (b' false) g')).a ((ee' (i' 1099511627776)).a ((ee' (z' us)).a ((wb' (decide (o' 1099511627776 < us)) g').a ((ee' (i' 1099511627776)).a ((ee' (z' us)).a ((wb' (decide (↑n > IntKind.i64.wrap (o' 1099511627776 - us))) g').a ((fe' true).a ((f' (findKey Tryz.prog (envW [(60,cWo m n r w),(56,cK [i' 1] (s' nmO)),(29,cK [s' nm1] (b' true)),(30,cClB n w)] (hAp us' sz') [] W F) 9 (s' nm1) [(s' nm1,pt' 1002 0,st)] 0 = AP.ret (some (0,pt' 1002 0)))).a ((f' (Wk (b' false) g')).a ((fe' true).a ((fe' true).a (((cp' True).a ((vw' [AV.slice 1100 0 n 1 (Cp.lo n)]).a (f' (OW (ce' (AV.rens (sgN (nmW 4) [1000] 1100) (rowV encB w)) 10) (ce' (AV.rens (fun k => match k with | 0 => sgN (nmW 4) (newL [(0,rB r),(1000,rB w)]) 1100 1000 | k => k) (rowV encB w)) 10))))).a ((tt'.a (tt'.a (tt'.a (tt'.a (ee' true))))).a ((fe' true).a ((fe' true).a (((p' (n.ble n = true)).a ((p' ((List.take (n * 1) (List.drop 0 (AV.rens (sgN (fun k => match k with | 0 => sgN (nmW 4) (newL [(0,rB r),(1000,rB w)]) 1100 1000 | k => k) [1000] 1101) (rowV encB w)))).length.beq (n * 1) = true)).a ((p' ((List.take (n * 1) (List.drop 0 (AV.rens (sgN (fun k => match k with | 0 => sgN (nmW 4) (newL [(0,rB r),(1000,rB w)]) 1100 1000 | k => k) [1000] 1101) (rowV encB w)))).all AV.one = true)).a ((p' (Nat.blt 0 n = true)).a ((p' ((0 + p * 1).ble (rowV encB da).length = true)).a ((p' (((p + n) * 1).ble 140737488355328 = true)).a ((p' ((p + n).ble 9223372036854775807 = true)).a (f' ((List.take (p * 1) (List.drop 0 (rowV encB da))).length.beq (p * 1) = true))))))))).a ((fe' true).a ((ee' (z' us)).a ((f' (Wk (z' (IntKind.i64.wrap (us + ↑n))) (z' us'))).a ((fe' true).a t')))))))))))))))))))))).a t'))))).a (h35' sz n sz' k1'))) := χ
theorem U0' (W : World) (us us' sz sz' : Int) (st ck p q n m z : Nat) (da sa r w : Bs) (V : List Value) (PR : Mem -> Prop) (F : HP) : wRun (UI' m n r w) (hAp us' sz') [] W fAp [.ptr 2 0, sB 4 m] (uD (pV z) us st ck p q da sa (.cells (vmap V) tPw) PR ++ [(2, lgC sz), (4, rB r)]) kD F = VT.leaf (i' 0) [some (ce' [AV.map 1001,AV.slice 1103 0 (z + 1) 3 (Cp.lo (z + 1)),i' 1099511627776,z' us'] 142),some (AO.map [(s' nm1,pt' 1002 0,st)] ck),some (ce' [AV.slice 1104 0 (p + n) 1 (Cp.lo (p + n)),AV.slice 1004 0 q 1 (Cp.lo q)] 148),none,some (ce' (rowV encB sa) 10),none,some (AO.any (frz PR)),some (ce' [pt' 0 0,s' nmL,i' 1,z' sz'] 154),some (ce' (AV.rens (sgN (nmW 4) [1000] 1100) (rowV encB r)) 10),some (ce' (AV.rens (sgN (fun k => match k with | 0 => sgN (nmW 4) (newL [(0,rB r),(1000,rB w)]) 1100 1000 | k => k) [1000] 1101) (rowV encB w)) 10),some (ce' (AV.rens (sgN (fun k => match k with | 0 => sgN (nmW 4) (newL [(0,rB r),(1000,rB w)]) 1100 1000 | k => k) [1000] 1101) (rowV encB w)) 10),some (ce' [s' nm1,z' ↑p,AV.slice 1101 0 n 1 (Cp.lo n)] 182),some (ce' (List.take (z * 3) (List.drop 0 (vmap V)) ++ [s' nm1,z' ↑p,AV.slice 1101 0 n 1 (Cp.lo n)]) 182),some (ce' (List.take (p * 1) (List.drop 0 (rowV encB da)) ++ List.take (n * 1) (List.drop 0 (AV.rens (sgN (fun k => match k with | 0 => sgN (nmW 4) (newL [(0,rB r),(1000,rB w)]) 1100 1000 | k => k) [1000] 1101) (rowV encB w)))) 10),none,none,none,none] 1105 (k36'.a ((((cp' True).a ((vw' [AV.slice 4 0 m 1 (Cp.lo m)]).a (f' (OW (ce' (rowV encB r) 10) (ce' (AV.rens (nmW 4) (rowV encB r)) 10))))).a ((f' (Wk (b' false) g')).a ((fe' true).a (((ee' (s' nmL)).a ((f' (Wk (s' (nmL ++ ByteArray.mk (Array.mk [46]))) (s' nmD))).a (((cp' True).a (f' (VW [i' 1] [i' 1]))).a ((f' (Wk (s' (nmD ++ nmO)) (s' nm1))).a t')))).a ((((cp' True).a (f' (VW [s' nm1] [s' nm1]))).a ((f' (Wk (b' false) g')).a ((ee' (i' 1099511627776)).a ((ee' (z' us)).a ((wb' (decide (o' 1099511627776 < us)) g').a ((ee' (i' 1099511627776)).a ((ee' (z' us)).a ((wb' (decide (↑n > IntKind.i64.wrap (o' 1099511627776 - us))) g').a ((fe' true).a ((f' (findKey Tryz.prog (envW [(60,cWo m n r w),(56,cK [i' 1] (s' nmO)),(29,cK [s' nm1] (b' true)),(30,cClB n w)] (hAp us' sz') [] W F) 9 (s' nm1) [(s' nm1,pt' 1002 0,st)] 0 = AP.ret (some (0,pt' 1002 0)))).a ((f' (Wk (b' false) g')).a ((fe' true).a ((fe' true).a (((cp' True).a ((vw' [AV.slice 1100 0 n 1 (Cp.lo n)]).a (f' (OW (ce' (AV.rens (sgN (nmW 4) [1000] 1100) (rowV encB w)) 10) (ce' (AV.rens (fun k => match k with | 0 => sgN (nmW 4) (newL [(0,rB r),(1000,rB w)]) 1100 1000 | k => k) (rowV encB w)) 10))))).a ((tt'.a (tt'.a (tt'.a (tt'.a ((p' ((0 + z * 3).ble (vmap V).length = true)).a ((p' (((z + 1) * 48).ble 140737488355328 = true)).a ((p' ((z + 1).ble 9223372036854775807 = true)).a (f' ((List.take (z * 3) (List.drop 0 (vmap V))).length.beq (z * 3) = true))))))))).a ((fe' true).a ((fe' true).a (((p' (n.ble n = true)).a ((p' ((List.take (n * 1) (List.drop 0 (AV.rens (sgN (fun k => match k with | 0 => sgN (nmW 4) (newL [(0,rB r),(1000,rB w)]) 1100 1000 | k => k) [1000] 1101) (rowV encB w)))).length.beq (n * 1) = true)).a ((p' ((List.take (n * 1) (List.drop 0 (AV.rens (sgN (fun k => match k with | 0 => sgN (nmW 4) (newL [(0,rB r),(1000,rB w)]) 1100 1000 | k => k) [1000] 1101) (rowV encB w)))).all AV.one = true)).a ((p' (Nat.blt 0 n = true)).a ((p' ((0 + p * 1).ble (rowV encB da).length = true)).a ((p' (((p + n) * 1).ble 140737488355328 = true)).a ((p' ((p + n).ble 9223372036854775807 = true)).a (f' ((List.take (p * 1) (List.drop 0 (rowV encB da))).length.beq (p * 1) = true))))))))).a ((fe' true).a ((ee' (z' us)).a ((f' (Wk (z' (IntKind.i64.wrap (us + ↑n))) (z' us'))).a ((fe' true).a t')))))))))))))))))))))).a t'))))).a (h35' sz n sz' k1'))) := χ
end
def lenR (xs : List Rs) : Nat := (xs.map (·.d.length)).sum
def pwV : Nat -> List Rs -> List Value
 | _, [] => []
 | o, x :: xs => .string nm1 :: .int .i64 (o' o) :: x.val :: pwV (o + x.d.length) xs
theorem NV' : ∀ (xs : List Rs) (o : Nat), (pwV o xs).length = xs.length * 3
 | [], o => rfl
 | x :: xs, o => by simp only [pwV, lc', NV' xs]; omega
theorem J6' (x : Rs) (xs : List Rs) : lenR (x :: xs) = x.d.length + lenR xs := by simp [lenR]
theorem PB' : ∀ (xs : List Rs) (o : Nat) (x : Rs), pwV o (xs ++ [x]) = pwV o xs ++ [.string nm1, .int .i64 (o' (o + lenR xs)), x.val]
 | [], o, x => by simp [pwV, lenR]
 | y :: xs, o, x => by simp only [List.cons_append, pwV, PB' xs, J6', Nat.add_assoc]
theorem JI' (a b : List Bs) : cat (a ++ b) = cat a ++ cat b := by simp [cat]
theorem L1' : ∀ (xs : List Rs) (rs : List Bs), xs.map (·.d) = rs.map AH' -> lenR xs = (cat rs).length
 | [], [], _ => rfl
 | x :: xs, r :: rs, h => by
  simp only [List.map_cons, List.cons.injEq] at h; rw [J6', L1' xs rs h.2, DB', la', h.1]
 | [], r :: rs, h => by cases h
 | x :: xs, [], h => by cases h
def xP : List Rs -> AV
 | [] => nilS
 | x :: r => pV (r.length + 1)
def oP (o : Nat) : List Rs -> AO
 | [] => dumZ
 | x :: r => .cells (vmap (pwV o (x :: r))) tPw
def dkL (S rs : List Bs) (xs : List Rs) : LH := uD (xP xs) (o' (cat (S ++ rs)).length) mSt mCk (cat (S ++ rs)).length (cat S).length (cat (S ++ rs)) (cat S) (oP (cat S).length xs) (PB xs)
def dO (S rs : List Bs) : AO := .own .nothing (exHP (fun xs : List Rs => xs.map (·.d) = rs.map AH') (dkL S rs))
theorem SE' (H0 : LH) (hd : (([0, 1001, 1002, 1003, 1004, 1005, 1006] : List Nat).all fun i => (getO H0 i).isNone) = true) (hl : AD' 1100 H0 = true) (S rs : List Bs) (xs : List Rs) : Eng.ownL H0 (dkL S rs xs) = true := by
 simp only [List.all_cons, List.all_nil, Bool.and_true, Bool.and_eq_true] at hd; simp only [Eng.ownL, dkL, uD, List.all_cons, List.all_nil, hd, hl, Bool.and_true]; rfl
theorem VL' (S rs : List Bs) (xs : List Rs) : ∀ x ∈ dkL S rs xs, x.2.cl (kH (dkL S rs xs)) := by
 cases xs with
 | nil => exact A0' ⟨rfl, Ye, Ye, Ye, Ye⟩ (A0' ⟨Ye, rfl, Ye⟩ (A0' ⟨rfl, rfl, Ye⟩ (A0' (AB' _ _) (A0' (AB' _ _) (A0' Ye (A0' Ye A2'))))))
 | cons x xs => exact A0' ⟨rfl, rfl, Ye, Ye, Ye⟩ (A0' ⟨Ye, rfl, Ye⟩ (A0' ⟨rfl, rfl, Ye⟩ (A0' (AB' _ _) (A0' (AB' _ _) (A0' (BM' _ _) (A0' Ye A2'))))))
theorem PQ' (S rs : List Bs) (xs : List Rs) : ∃ cs e, getO (dkL S rs xs) 0 = some (.cells cs e) /\ e % 2 = 0 := ⟨_, _, rfl, by kernel_rfl⟩
theorem PF' {S rs : List Bs} (hd : (([0, 1001, 1002, 1003, 1004, 1005, 1006] : List Nat).all fun i => (getO H0 i).isNone) = true) (hl : AD' 1100 H0 = true)
  (h : ∀ xs : List Rs, xs.map (·.d) = rs.map AH' -> Tri Θ W f A (dkL S rs xs ++ H0) v H') : Tri Θ W f A ((0, dO S rs) :: H0) v H' :=
 Tri.open (R := fun xs : List Rs => xs.map (·.d) = rs.map AH') (L := dkL S rs) (H0 := H0) (fun xs => SE' H0 hd hl S rs xs) (fun xs => VL' S rs xs) (fun xs => by obtain ⟨cs, e, h, _⟩ := PQ' S rs xs; exact ⟨_, h⟩) h
theorem V2' {S rs : List Bs} (xs : List Rs) (hx : xs.map (·.d) = rs.map AH') (hd : (([0, 1001, 1002, 1003, 1004, 1005, 1006] : List Nat).all fun i => (getO H0 i).isNone) = true) (hl : AD' 1100 H0 = true)
  (hv : AV.cls (fun i => Nat.blt i 1000 || (getO H0 i).isSome) vs) (ho : ∀ x ∈ H0, x.2.cl (fun i => Nat.blt i 1000 || (getO H0 i).isSome)) : Goes vs (dkL S rs xs ++ H0) vs ((0, dO S rs) :: H0) :=
 Goes.shut (R := fun xs : List Rs => xs.map (·.d) = rs.map AH') (L := dkL S rs) xs hx (SE' H0 hd hl S rs xs) (PQ' S rs xs) hv ho
theorem LU' (w : Bs) (σ : Nat -> Nat) : (List.take (w.length * 1) (List.drop 0 (AV.rens σ (rowV encB w)))).all AV.one = true := by
 rw [A1', List.drop_zero, List.take_of_length_le (by rw [BJ', Nat.mul_one]; exact Yd)]; simp [rowV, vmap, AV.one, encB]
 exact fun x _ => rfl
structure ApK (us us' sz sz' : Int) (da w : Bs) (n p : Nat) : Prop where
 hn : n = w.length
 hp : p = da.length
 f1 : decide (o' 1099511627776 < us) = false
 f2 : decide ((n : Int) > IntKind.i64.wrap (o' 1099511627776 - us)) = false
 us : IntKind.i64.wrap (us + (n : Int)) = us'
 sz : IntKind.i64.wrap (sz + (n : Int)) = sz'
 n1 : 0 < n
 n2 : (0 + p * 1).ble (rowV encB da).length = true
 n3 : ((p + n) * 1).ble 140737488355328 = true
 n4 : (p + n).ble 9223372036854775807 = true
 d1 : (List.take (p * 1) (List.drop 0 (rowV encB da))).length.beq (p * 1) = true
theorem W0' (xs : List Rs) (x : Rs) : xP (xs ++ [x]) = pV (xs.length + 1) := by
 cases xs with
 | nil => rfl
 | cons y xs => show pV ((xs ++ [x]).length + 1) = _; rw [la']; rfl
theorem ZS' (o : Nat) (xs : List Rs) (x : Rs) : oP o (xs ++ [x]) = .cells (vmap (pwV o (xs ++ [x]))) tPw := by
 cases xs with
 | nil => rfl
 | cons y xs => rfl
theorem S5' {S rs : List Bs} {r : Bs} (xs : List Rs) (hx : xs.map (·.d) = rs.map AH') (hr : r.length <= most) (hd : (([0, 1001, 1002, 1003, 1004, 1005, 1006, 1007] : List Nat).all fun i => (getO H0 i).isNone) = true) (hl : AD' 1100 H0 = true)
  (hv : ∀ K, AV.cls K vs) (ho : ∀ K : Nat -> Bool, K 0 = true -> ∀ x ∈ H0, x.2.cl K) :
  Goes vs (uD (pV (xs.length + 1)) (o' (cat (S ++ (rs ++ [r]))).length) mSt mCk (cat (S ++ (rs ++ [r]))).length (cat S).length (cat (S ++ (rs ++ [r]))) (cat S) (.cells (vmap (pwV (cat S).length xs) ++ [sv nm1, iv (o' ((cat S).length + lenR xs)), sB 1007 (AH' r).length]) tPw) (PB xs) ++ ((1007, rB (AH' r)) :: H0)) vs ((0, dO S (rs ++ [r])) :: H0) := by
 intro W0 F N ys w hst; have hd' := hd; simp only [List.all_cons, List.all_nil, Bool.and_true, Bool.and_eq_true, Option.isNone_iff_eq_none] at hd'; obtain ⟨n0, n1, n2, n3, n4, n5, n6, n7⟩ := hd'; have hlen : (AH' r).length = 8 + r.length := B2' r; have hr' : r.length <= 1048576 := hr
 have hb : (AH' r).length <= big := by rw [hlen]; show _ <= 140737488351232; omega
 have hp : 0 < (AH' r).length := ω
 obtain ⟨c, hc⟩ := RD' (by
   simp only [AD', uD, List.cons_append, List.nil_append, List.all_cons] at hl ⊢
   rw [hl]; rfl) hst 1005 1006 [1007] δ δ δ (a := vmap (pwV (cat S).length xs)) (b := [sv nm1, iv (o' ((cat S).length + lenR xs)), sB 1007 (AH' r).length]) (e := tPw) rfl rfl (fun N1 D w h => h.lt)
  (fun c C => PB xs C /\ ∃ x : Rs, x.d = AH' r /\ c = [.string nm1, .int .i64 (o' ((cat S).length + lenR xs)), x.val] /\ At1 C x) (fun N1 D hD yb hy => by
   have hP : PB xs (GN' (D 1006) w) := (hD 1006 _ rfl).1; obtain ⟨y1, r1, a1, q1, rfl⟩ := hy; obtain ⟨y2, r2, a2, q2, rfl⟩ := q1; obtain ⟨y, r0, a3, q3, rfl⟩ := q2; have q3 : r0 = [] := q3; subst q3; have a1 : y1 = .string nm1 := VR_v.1 a1; have a2 : y2 = .int .i64 (o' ((cat S).length + lenR xs)) := VR_v.1 a2; subst a1 a2; obtain ⟨a, cp, rfl, hB, hC⟩ := V3' hb hp (hD 1007 _ rfl) a3
   exact ⟨[.string nm1, .int .i64 (o' ((cat S).length + lenR xs)), .slice (some a) (AH' r).length cp], rfl, VRs.vmap _, hP.mono (EX' fun b hb => .inl hb), ⟨AH' r, some a, cp⟩, rfl, rfl, ⟨hB.mono (EX' fun b hb => .inr ⟨1007, List.mem_cons_self, ⟨_, rfl⟩, hb⟩), hC⟩⟩)
 obtain ⟨⟨C0, _, x, hxd, rfl, _⟩, hc⟩ := hc
 have hfin := hc (dkL S (rs ++ [r]) (xs ++ [x]) ++ H0) (PB (xs ++ [x])) (by
   simp only [AD', dkL, uD, List.cons_append, List.nil_append, List.all_cons] at hl ⊢
   rw [hl]; rfl) (by
   show some (oP (cat S).length (xs ++ [x])) = _
   rw [ZS', PB', ET']) rfl (fun C ⟨h1, x', h2, h3, h4⟩ => by
   have e : x' = x := by
    obtain ⟨d1, a1, c1⟩ := x; obtain ⟨d2, a2, c2⟩ := x'; simp only at hxd h2; subst hxd h2; simp only [Rs.val, List.cons.injEq, Value.slice.injEq, and_true, true_and] at h3; obtain ⟨rfl, rfl⟩ := h3; rfl
   rw [e] at h4
   exact h1.snoc h4) (fun n o h1 h2 h3 => by
   simp only [dkL, uD, List.cons_append, List.nil_append, getO, if_neg h1, if_neg h2, W0'] at h3 ⊢
   by_cases e7 : n = 1007
   ·subst e7
    simp only [show ¬ (1007 = 0) by decide, show ¬ (1007 = 1001) by decide, show ¬ (1007 = 1002) by decide, show ¬ (1007 = 1003) by decide, show ¬ (1007 = 1004) by decide, if_false] at h3
    rw [n7] at h3; cases h3
   ·exact ⟨by simp [e7], by simp only [if_neg e7]; exact h3⟩) (hv _) (by
   have hK0 : (fun n => Nat.blt n 1000 || (getO (dkL S (rs ++ [r]) (xs ++ [x]) ++ H0) n).isSome) 0 = true := rfl
   intro y hy
   rcases List.mem_append.1 hy with hy | hy
   ·have hk : ∀ i, kH (dkL S (rs ++ [r]) (xs ++ [x])) i = true -> (fun n => Nat.blt n 1000 || (getO (dkL S (rs ++ [r]) (xs ++ [x]) ++ H0) n).isSome) i = true := fun i hi => by
     simp only [kH] at hi; obtain ⟨o, ho⟩ := Option.isSome_iff_exists.1 hi; simp only [BV', ho, Option.isSome_some, Bool.or_true]
    exact AO.cl_mono hk (VL' S (rs ++ [r]) (xs ++ [x]) y hy)
   ·exact ho _ hK0 y hy)
 exact V2' (xs ++ [x]) (by rw [List.map_append, List.map_append, hx]; simp only [List.map_cons, List.map_nil, hxd]) (by
   simp only [List.all_cons, List.all_nil, Bool.and_true, Bool.and_eq_true, n0, n1, n2, n3, n4, n5, n6]; simp) hl (hv _) (ho _ rfl) W0 F N ys w hfin
theorem VO' (hN : LN W) (r : Bs) (hr : r.length <= most) (hp : 0 < r.length) (F : HP) (hF : AF' W F) : C1OK Θ F fWp (cWo r.length (AH' r).length r (AH' r)) := by
 have hb : r.length <= big := by have : r.length <= 1048576 := hr; show _ <= 140737488351232; omega
 exact AX' hF (fun _ => .tuple [sB 1000 (AH' r).length, iv 0]) (fun args => by split <;> first | exact RO.ret _ | exact RO.fail _) (fun _ => rfl) (fun _ _ => K9' W hN (pre := []) (H' := [(1000, rB (AH' r))]) hb hp rfl (fun i o h => by
  simp only [getO] at h ⊢
  by_cases e : i = 1000
  ·subst e; exact ⟨δ, by simp⟩
  ·rw [if_neg e] at h; cases h) fun W' hN' oa c h _ => KO' W' hN' oa c r h hr) fun _ => ⟨rfl, rfl, ⟨rfl, Ye⟩, A0' (AB' _ _) A2', ⟨⟨rfl, Ye, Ye⟩, Ye⟩, A0' (AB' _ _) (A0' (AB' _ _) A2')⟩
theorem VP' (hN : LN W) (F : HP) (hF : AF' W F) : C1OK Θ F fWp (cWm (AH' []).length (AH' [])) := by
 refine AX' hF (fun _ => .tuple [sB 1000 (AH' []).length, iv 0]) (fun _ => RO.ret _) (fun _ => rfl) (fun _ _ => ?_) fun _ => ⟨rfl, rfl, ⟨Ye, Ye⟩, A2', ⟨⟨rfl, Ye, Ye⟩, Ye⟩, A0' (AB' _ _) A2'⟩
 refine HM' (H := []) (H' := [(1000, rB (AH' []))]) rfl rfl (fun i o h => by
  simp only [getO] at h ⊢
  by_cases e : i = 1000
  ·subst e; exact ⟨δ, Ye⟩
  ·rw [if_neg e] at h; cases h) fun W0 F N w vargs hF hNB r ha => ?_
 obtain ⟨y, r1, q1, q2, e⟩ := ha; have q2 : r1 = [] := q2; subst q2
 obtain ⟨a, rfl⟩ : ∃ a, y = .slice a 0 0 := by simpa only [VR] using q1
 have r0 := r; obtain ⟨_, _, _, D0, _, hD0, _, _⟩ := r0; refine ⟨_, e, ?_⟩
 exact KO' w (hN.mono (CY' (hF D0 w hD0))) a 0 [] ⟨Nat.zero_le _, fun i b hb => by simp at hb⟩ (Nat.zero_le _)
theorem VX' {da w : Bs} (h0 : 0 < w.length) (hz : da.length + w.length <= 1099511627776) : ApK (o' da.length) (o' (da.length + w.length)) (o' da.length) (o' (da.length + w.length)) da w w.length da.length := by
 have hrl : (rowV encB da).length = da.length := BJ' da; refine ⟨rfl, rfl, decide_eq_false (by simp only [Z0]; omega), decide_eq_false ?_, ?_, ?_, ?_, AP' (by rw [hrl]; omega), AP' ω, AP' ω, ?_⟩
 ·rw [IntWalk.i64_in _ (by simp only [Z0]; omega)]; simp only [Z0]; omega
 ·rw [IntWalk.i64_in _ (by simp only [Z0]; omega)]; simp only [Z0]; omega
 ·rw [IntWalk.i64_in _ (by simp only [Z0]; omega)]; simp only [Z0]; omega
 ·exact h0
 ·rw [List.drop_zero, List.take_of_length_le (by rw [hrl, Nat.mul_one]; exact Yd), hrl, Nat.mul_one]; exact Nat.beq_refl _
theorem UT' {da w : Bs} (K : ApK us us' sz sz' da w n p) (q : Nat) (sa : Bs) (m : Nat) (r : Bs) (z : Nat) (V : List Value) (hV : V.length = z * 3) (hz : z < 1099511627776) (PR : Mem -> Prop) (hW : ∀ F, AF' W F -> C1OK Θ F fWp (cWo m n r w)) (hcl : ∀ F, C1OK Θ F fCl (cClB n w)) :
  Tri Θ W fAp [.ptr 2 0, sB 4 m] (uD (pV z) us mSt mCk p q da sa (.cells (vmap V) tPw) PR ++ [(2, lgC sz), (4, rB r)]) (iv 0) (uD (pV (z + 1)) us' mSt mCk (p + n) q (da ++ w) sa (.cells (vmap V ++ [sv nm1, iv (o' p), sB 1007 n]) tPw) PR ++ ((1007, rB w) :: [(2, lgC sz'), (4, rB r)])) := by
 have hrow : ∀ σ : Nat -> Nat, List.take (p * 1) (List.drop 0 (rowV encB da)) ++ List.take (n * 1) (List.drop 0 (AV.rens σ (rowV encB w))) = rowV encB (da ++ w) := fun σ => by
  rw [K.hn, K.hp, A1', List.drop_zero, List.drop_zero, List.take_of_length_le (by rw [BJ', Nat.mul_one]; exact Yd), List.take_of_length_le (by rw [BJ', Nat.mul_one]; exact Yd), D1']
 have w3 : ∀ σ : Nat -> Nat, (List.take (n * 1) (List.drop 0 (AV.rens σ (rowV encB w)))).length.beq (n * 1) = true := fun σ => by
  rw [K.hn, A1', List.drop_zero, List.take_of_length_le (by rw [BJ', Nat.mul_one]; exact Yd), BJ', Nat.mul_one]; exact Nat.beq_refl _
 have w4 : ∀ σ : Nat -> Nat, (List.take (n * 1) (List.drop 0 (AV.rens σ (rowV encB w)))).all AV.one = true := fun σ => by rw [K.hn]; exact LU' w σ
 have ktk : List.take (z * 3) (List.drop 0 (vmap V)) = vmap V := by rw [List.drop_zero, List.take_of_length_le (by rw [BF', hV]; exact Yd)]
 have z1 : (0 + z * 3).ble (vmap V).length = true := AP' (by rw [BF', hV]; omega); have z2 : ((z + 1) * 48).ble 140737488355328 = true := AP' ω; have z3 : (z + 1).ble 9223372036854775807 = true := AP' ω
 have z4 : (List.take (z * 3) (List.drop 0 (vmap V))).length.beq (z * 3) = true := by rw [ktk, BF', hV]; exact Nat.beq_refl _
 refine AJ' (con := UI' m n r w) (hints := hAp us' sz') (lc := []) kD χ (fun F hF => A7' (hW F hF) (A7' (DQ' (GB' _) (fun K => ⟨Ye, Ye⟩) (fun K => trivial) F) (A7' (DQ' (HW' _) (fun K => ⟨Ye, Ye⟩) (fun K => trivial) F) (BA' (hcl F))))) (fun F _ => noL) fun F => ?_
 refine Yj (U0' W us us' sz sz' mSt mCk p q n m z da sa r w V PR F) ⟨⟨?_, (AR' (vs' := [iv 0]) (H' := [(0, dkC (pV (z + 1)) us'), (1001, mpO mSt mCk), (1002, fiC (p + n) q), (1003, rB (da ++ w)), (1004, rB sa), (1005, (.cells (vmap V ++ [sv nm1, iv (o' p), sB 1007 n]) tPw)), (1006, .any (frz PR)), (1007, rB w), (2, lgC sz'), (4, rB r)]) [(1001, 1001), (1002, 1002), (1003, 1104), (1004, 1004), (1005, 1103), (1006, 1006), (1007, 1101)] χ χ (Yb) ⟨⟨_, rfl, Yc⟩, ⟨_, rfl, Yc⟩, ⟨_, rfl, Yc⟩, ⟨_, rfl, A5' (hrow _) rfl⟩, ⟨_, rfl, A5' rfl rfl⟩, ⟨_, rfl, by rw [ktk]; exact OW.of_eq (by simp only [AO.ren, CD', AW']; rfl)⟩, ⟨_, rfl, Yc⟩, ⟨_, rfl, A5' (A1' _ _) rfl⟩, ⟨_, rfl, Yc⟩, ⟨_, rfl, A5' (A1' _ _) rfl⟩, Ye⟩).fits χ⟩⟩
 exact Cw9'
theorem UR' {da w : Bs} (K : ApK us us' sz sz' da w n p) (q : Nat) (sa : Bs) (m : Nat) (r : Bs) (O : AO) (PR : Mem -> Prop) (hW : ∀ F, AF' W F -> C1OK Θ F fWp (cWo m n r w)) (hcl : ∀ F, C1OK Θ F fCl (cClB n w)) :
  Tri Θ W fAp [.ptr 2 0, sB 4 m] (uD nilS us mSt mCk p q da sa O PR ++ [(2, lgC sz), (4, rB r)]) (iv 0) (uD (pV (0 + 1)) us' mSt mCk (p + n) q (da ++ w) sa (.cells [sv nm1, iv (o' p), sB 1007 n] tPw) PR ++ ((1007, rB w) :: [(2, lgC sz'), (4, rB r)])) := by
 have hrow : ∀ σ : Nat -> Nat, List.take (p * 1) (List.drop 0 (rowV encB da)) ++ List.take (n * 1) (List.drop 0 (AV.rens σ (rowV encB w))) = rowV encB (da ++ w) := fun σ => by
  rw [K.hn, K.hp, A1', List.drop_zero, List.drop_zero, List.take_of_length_le (by rw [BJ', Nat.mul_one]; exact Yd), List.take_of_length_le (by rw [BJ', Nat.mul_one]; exact Yd), D1']
 have w3 : ∀ σ : Nat -> Nat, (List.take (n * 1) (List.drop 0 (AV.rens σ (rowV encB w)))).length.beq (n * 1) = true := fun σ => by
  rw [K.hn, A1', List.drop_zero, List.take_of_length_le (by rw [BJ', Nat.mul_one]; exact Yd), BJ', Nat.mul_one]; exact Nat.beq_refl _
 have w4 : ∀ σ : Nat -> Nat, (List.take (n * 1) (List.drop 0 (AV.rens σ (rowV encB w)))).all AV.one = true := fun σ => by rw [K.hn]; exact LU' w σ
 refine AJ' (con := UI' m n r w) (hints := hAp us' sz') (lc := []) kD χ (fun F hF => A7' (hW F hF) (A7' (DQ' (GB' _) (fun K => ⟨Ye, Ye⟩) (fun K => trivial) F) (A7' (DQ' (HW' _) (fun K => ⟨Ye, Ye⟩) (fun K => trivial) F) (BA' (hcl F))))) (fun F _ => noL) fun F => ?_
 refine Yj (TY' W us us' sz sz' mSt mCk p q n m da sa r w O PR F) ⟨⟨?_, (AR' (vs' := [iv 0]) (H' := [(0, dkC (pV (0 + 1)) us'), (1001, mpO mSt mCk), (1002, fiC (p + n) q), (1003, rB (da ++ w)), (1004, rB sa), (1005, (.cells [sv nm1, iv (o' p), sB 1007 n] tPw)), (1006, .any (frz PR)), (1007, rB w), (2, lgC sz'), (4, rB r)]) [(1001, 1001), (1002, 1002), (1003, 1104), (1004, 1004), (1005, 1103), (1006, 1006), (1007, 1101)] χ χ (Yb) ⟨⟨_, rfl, Yc⟩, ⟨_, rfl, Yc⟩, ⟨_, rfl, Yc⟩, ⟨_, rfl, A5' (hrow _) rfl⟩, ⟨_, rfl, A5' rfl rfl⟩, ⟨_, rfl, Yc⟩, ⟨_, rfl, Yc⟩, ⟨_, rfl, A5' (A1' _ _) rfl⟩, ⟨_, rfl, Yc⟩, ⟨_, rfl, A5' (A1' _ _) rfl⟩, Ye⟩).fits χ⟩⟩; exact Cw9'
theorem UU' {da w : Bs} (K : ApK us us' sz sz' da w n p) (q : Nat) (sa : Bs)  (z : Nat) (V : List Value) (hV : V.length = z * 3) (hz : z < 1099511627776) (PR : Mem -> Prop) (hW : ∀ F, AF' W F -> C1OK Θ F fWp (cWm n w)) (hcl : ∀ F, C1OK Θ F fCl (cClB n w)) :
  Tri Θ W fAp [.ptr 2 0, .mt] (uD (pV z) us mSt mCk p q da sa (.cells (vmap V) tPw) PR ++ [(2, lgC sz)]) (iv 0) (uD (pV (z + 1)) us' mSt mCk (p + n) q (da ++ w) sa (.cells (vmap V ++ [sv nm1, iv (o' p), sB 1007 n]) tPw) PR ++ ((1007, rB w) :: [(2, lgC sz')])) := by
 have hrow : ∀ σ : Nat -> Nat, List.take (p * 1) (List.drop 0 (rowV encB da)) ++ List.take (n * 1) (List.drop 0 (AV.rens σ (rowV encB w))) = rowV encB (da ++ w) := fun σ => by
  rw [K.hn, K.hp, A1', List.drop_zero, List.drop_zero, List.take_of_length_le (by rw [BJ', Nat.mul_one]; exact Yd), List.take_of_length_le (by rw [BJ', Nat.mul_one]; exact Yd), D1']
 have w3 : ∀ σ : Nat -> Nat, (List.take (n * 1) (List.drop 0 (AV.rens σ (rowV encB w)))).length.beq (n * 1) = true := fun σ => by
  rw [K.hn, A1', List.drop_zero, List.take_of_length_le (by rw [BJ', Nat.mul_one]; exact Yd), BJ', Nat.mul_one]; exact Nat.beq_refl _
 have w4 : ∀ σ : Nat -> Nat, (List.take (n * 1) (List.drop 0 (AV.rens σ (rowV encB w)))).all AV.one = true := fun σ => by rw [K.hn]; exact LU' w σ
 have ktk : List.take (z * 3) (List.drop 0 (vmap V)) = vmap V := by rw [List.drop_zero, List.take_of_length_le (by rw [BF', hV]; exact Yd)]
 have z1 : (0 + z * 3).ble (vmap V).length = true := AP' (by rw [BF', hV]; omega); have z2 : ((z + 1) * 48).ble 140737488355328 = true := AP' ω; have z3 : (z + 1).ble 9223372036854775807 = true := AP' ω
 have z4 : (List.take (z * 3) (List.drop 0 (vmap V))).length.beq (z * 3) = true := by rw [ktk, BF', hV]; exact Nat.beq_refl _
 refine AJ' (con := UJ' n w) (hints := hAp us' sz') (lc := []) kD χ (fun F hF => A7' (hW F hF) (A7' (DQ' (GB' _) (fun K => ⟨Ye, Ye⟩) (fun K => trivial) F) (A7' (DQ' (HW' _) (fun K => ⟨Ye, Ye⟩) (fun K => trivial) F) (BA' (hcl F))))) (fun F _ => noL) fun F => ?_
 refine Yj (U1' W us us' sz sz' mSt mCk p q n z da sa w V PR F) ⟨⟨?_, (AR' (vs' := [iv 0]) (H' := [(0, dkC (pV (z + 1)) us'), (1001, mpO mSt mCk), (1002, fiC (p + n) q), (1003, rB (da ++ w)), (1004, rB sa), (1005, (.cells (vmap V ++ [sv nm1, iv (o' p), sB 1007 n]) tPw)), (1006, .any (frz PR)), (1007, rB w), (2, lgC sz')]) [(1001, 1001), (1002, 1002), (1003, 1104), (1004, 1004), (1005, 1103), (1006, 1006), (1007, 1101)] χ χ (Yb) ⟨⟨_, rfl, Yc⟩, ⟨_, rfl, Yc⟩, ⟨_, rfl, Yc⟩, ⟨_, rfl, A5' (hrow _) rfl⟩, ⟨_, rfl, A5' rfl rfl⟩, ⟨_, rfl, by rw [ktk]; exact OW.of_eq (by simp only [AO.ren, CD', AW']; rfl)⟩, ⟨_, rfl, Yc⟩, ⟨_, rfl, A5' (A1' _ _) rfl⟩, ⟨_, rfl, Yc⟩, Ye⟩).fits χ⟩⟩
 exact Cw9'
theorem US' {da w : Bs} (K : ApK us us' sz sz' da w n p) (q : Nat) (sa : Bs)  (O : AO) (PR : Mem -> Prop) (hW : ∀ F, AF' W F -> C1OK Θ F fWp (cWm n w)) (hcl : ∀ F, C1OK Θ F fCl (cClB n w)) :
  Tri Θ W fAp [.ptr 2 0, .mt] (uD nilS us mSt mCk p q da sa O PR ++ [(2, lgC sz)]) (iv 0) (uD (pV (0 + 1)) us' mSt mCk (p + n) q (da ++ w) sa (.cells [sv nm1, iv (o' p), sB 1007 n] tPw) PR ++ ((1007, rB w) :: [(2, lgC sz')])) := by
 have hrow : ∀ σ : Nat -> Nat, List.take (p * 1) (List.drop 0 (rowV encB da)) ++ List.take (n * 1) (List.drop 0 (AV.rens σ (rowV encB w))) = rowV encB (da ++ w) := fun σ => by
  rw [K.hn, K.hp, A1', List.drop_zero, List.drop_zero, List.take_of_length_le (by rw [BJ', Nat.mul_one]; exact Yd), List.take_of_length_le (by rw [BJ', Nat.mul_one]; exact Yd), D1']
 have w3 : ∀ σ : Nat -> Nat, (List.take (n * 1) (List.drop 0 (AV.rens σ (rowV encB w)))).length.beq (n * 1) = true := fun σ => by
  rw [K.hn, A1', List.drop_zero, List.take_of_length_le (by rw [BJ', Nat.mul_one]; exact Yd), BJ', Nat.mul_one]; exact Nat.beq_refl _
 have w4 : ∀ σ : Nat -> Nat, (List.take (n * 1) (List.drop 0 (AV.rens σ (rowV encB w)))).all AV.one = true := fun σ => by rw [K.hn]; exact LU' w σ
 refine AJ' (con := UJ' n w) (hints := hAp us' sz') (lc := []) kD χ (fun F hF => A7' (hW F hF) (A7' (DQ' (GB' _) (fun K => ⟨Ye, Ye⟩) (fun K => trivial) F) (A7' (DQ' (HW' _) (fun K => ⟨Ye, Ye⟩) (fun K => trivial) F) (BA' (hcl F))))) (fun F _ => noL) fun F => ?_
 refine Yj (TZ' W us us' sz sz' mSt mCk p q n da sa w O PR F) ⟨⟨?_, (AR' (vs' := [iv 0]) (H' := [(0, dkC (pV (0 + 1)) us'), (1001, mpO mSt mCk), (1002, fiC (p + n) q), (1003, rB (da ++ w)), (1004, rB sa), (1005, (.cells [sv nm1, iv (o' p), sB 1007 n] tPw)), (1006, .any (frz PR)), (1007, rB w), (2, lgC sz')]) [(1001, 1001), (1002, 1002), (1003, 1104), (1004, 1004), (1005, 1103), (1006, 1006), (1007, 1101)] χ χ (Yb) ⟨⟨_, rfl, Yc⟩, ⟨_, rfl, Yc⟩, ⟨_, rfl, Yc⟩, ⟨_, rfl, A5' (hrow _) rfl⟩, ⟨_, rfl, A5' rfl rfl⟩, ⟨_, rfl, Yc⟩, ⟨_, rfl, Yc⟩, ⟨_, rfl, A5' (A1' _ _) rfl⟩, ⟨_, rfl, Yc⟩, Ye⟩).fits χ⟩⟩; exact Cw9'
theorem ap_tri (W : World) (S rs : List Bs) (r : Bs) (hr : r.length <= most) (hS : 0 < (cat S).length) (hz : (cat (S ++ (rs ++ [r]))).length <= 1099511627776) (hk : rs.length < 1099511627776) (hW : ∀ F, AF' W F -> C1OK Θ F fWp (cWo r.length (AH' r).length r (AH' r))) : Tri Θ W fAp [.ptr 2 0, sB 4 r.length] ((0, dO S rs) :: [(2, lgC (o' (cat (S ++ rs)).length)), (4, rB r)]) (iv 0) ((0, dO S (rs ++ [r])) :: [(2, lgC (o' (cat (S ++ (rs ++ [r]))).length)), (4, rB r)]) := by
 have hlen : (AH' r).length = 8 + r.length := B2' r
 have hcat : cat (S ++ (rs ++ [r])) = cat (S ++ rs) ++ AH' r := by rw [<- List.append_assoc, G0']
 have hsum : (cat (S ++ (rs ++ [r]))).length = (cat (S ++ rs)).length + (AH' r).length := by rw [hcat, la']
 have K := VX' (da := cat (S ++ rs)) (w := AH' r) ω ω; rw [<- hsum] at K
 have hcl := fun (F : HP) => BP' (l := AH' r) (by rw [hlen]; show _ <= 140737488351232; have : r.length <= 1048576 := hr; omega) ω F
 refine PF' (by rfl) χ fun xs hx => ?_
 have hxl : xs.length = rs.length := by have := congrArg List.length hx; simpa using this
 have hat : (cat (S ++ rs)).length = (cat S).length + lenR xs := by rw [JI', la', L1' xs rs hx]
 have hg := S5' (S := S) (vs := [iv 0]) (H0 := [(2, lgC (o' (cat (S ++ (rs ++ [r]))).length)), (4, rB r)]) xs hx hr (by rfl) χ (fun K => ⟨Ye, Ye⟩) (fun K h0 => A0' ⟨h0, Ye, Ye, Ye, Ye⟩ (A0' (AB' _ _) A2')); rw [hcat, <- hat, <- hcat] at hg
 cases xs with
 | nil =>
  have := UR' K (cat S).length (cat S) r.length r dumZ (PB []) hW hcl; rw [<- hcat, <- hsum] at this; exact Tri.post this hg
 | cons x xs =>
  have := UT' K (cat S).length (cat S) r.length r (xs.length + 1) (pwV (cat S).length (x :: xs)) (NV' _ _) (by simp only [lc'] at hxl; omega) (PB (x :: xs)) hW hcl; rw [<- hcat, <- hsum] at this; exact Tri.post this hg
theorem dM' (W : World) (S rs : List Bs) (r : Bs) (hr : r.length <= most) (hS : 0 < (cat S).length) (hz : (cat (S ++ (rs ++ [r]))).length <= 1099511627776) (hk : rs.length < 1099511627776) (hW : ∀ F, AF' W F -> C1OK Θ F fWp (cWm (AH' r).length (AH' r))) : Tri Θ W fAp [.ptr 2 0, .mt] ((0, dO S rs) :: [(2, lgC (o' (cat (S ++ rs)).length))]) (iv 0) ((0, dO S (rs ++ [r])) :: [(2, lgC (o' (cat (S ++ (rs ++ [r]))).length))]) := by
 have hlen : (AH' r).length = 8 + r.length := B2' r
 have hcat : cat (S ++ (rs ++ [r])) = cat (S ++ rs) ++ AH' r := by rw [<- List.append_assoc, G0']
 have hsum : (cat (S ++ (rs ++ [r]))).length = (cat (S ++ rs)).length + (AH' r).length := by rw [hcat, la']
 have K := VX' (da := cat (S ++ rs)) (w := AH' r) ω ω; rw [<- hsum] at K
 have hcl := fun (F : HP) => BP' (l := AH' r) (by rw [hlen]; show _ <= 140737488351232; have : r.length <= 1048576 := hr; omega) ω F
 refine PF' (by rfl) χ fun xs hx => ?_
 have hxl : xs.length = rs.length := by have := congrArg List.length hx; simpa using this
 have hat : (cat (S ++ rs)).length = (cat S).length + lenR xs := by rw [JI', la', L1' xs rs hx]
 have hg := S5' (S := S) (vs := [iv 0]) (H0 := [(2, lgC (o' (cat (S ++ (rs ++ [r]))).length))]) xs hx hr (by rfl) χ (fun K => ⟨Ye, Ye⟩) (fun K h0 => A0' ⟨h0, Ye, Ye, Ye, Ye⟩ A2'); rw [hcat, <- hat, <- hcat] at hg
 cases xs with
 | nil =>
  have := US' K (cat S).length (cat S) dumZ (PB []) hW hcl; rw [<- hcat, <- hsum] at this; exact Tri.post this hg
 | cons x xs =>
  have := UU' K (cat S).length (cat S) (xs.length + 1) (pwV (cat S).length (x :: xs)) (NV' _ _) (by simp only [lc'] at hxl; omega) (PB (x :: xs)) hW hcl; rw [<- hcat, <- hsum] at this; exact Tri.post this hg
noncomputable section
abbrev fDs : Nat := 47
abbrev fLs : Nat := 23
def aSy (z i : Nat) : List (Nat × AV) := [(0, .ptr 0 0), (8, pV z), (9, iv (o' z)), (10, iv (o' i))]
def hSy (i : Nat) (at' : Int) (oa : Option Addr) (m k : Nat) : BD' := AC' [ht' fDs 1 0, (fDs, 2, 1, hv (.agg [sv nm1, iv at', slV oa m k])), (fDs, 5, 0, hv (iv (o' (i + 1))))]
def kS : List Nat := [0, 1001, 1002, 1003, 1004, 1005, 1006, 2, 1100, 1101, 1102, 1103, 1104]
abbrev k37' : Cnd := (ee' (s' nm1))
theorem Y9' (us at' : Int) (st ck p q z i m k : Nat) (oa : Option Addr) (da sa : Bs) (V : List Value) (PR : Mem -> Prop) (F : HP) : AS' [(fCl, cClB p da)] (hSy i at' oa m k) [] default fDs (A4' fDs 1) (tms 0 33 (aSy z i)) (uD (pV z) us st ck p q da sa (.cells (vmap V) tPw) PR) kS [0, 8, 9, 10] F = VT.leaf (AX.normal,[pt' 0 0,AV.slice 1005 0 z 3 (Cp.lo z),i' z,i' (i + 1)],33) [some (ce' [AV.map 1001,AV.slice 1005 0 z 3 (Cp.lo z),i' 1099511627776,z' us] 142),some (AO.map [(s' nm1,pt' 1002 0,st)] ck),some (ce' [AV.slice 1003 0 p 1 (Cp.lo p),AV.slice 1101 0 p 1 (Cp.lo p)] 148),some (ce' (AV.rens (sgN (fun k => match k with | 0 => 1003 | k => k) [1000] 1101) (rowV encB da)) 10),some (ce' (rowV encB sa) 10),some (ce' (vmap V) 182),some (AO.any (frz PR)),none,some (ce' [s' nm1,z' at',AV.v (sl' oa m k)] 182),some (ce' (AV.rens (sgN (fun k => match k with | 0 => 1003 | k => k) [1000] 1101) (rowV encB da)) 10),none,none,none] 1102 ((k3' i z).a ((f' (i.blt z = true)).a (((p' ((List.take 3 (List.drop (0 + i * 3) (vmap V))).length.beq 3 = true)).a ((p' (List.take 3 (List.drop (0 + i * 3) (vmap V)) = [AV.v (Value.string ((List.take 3 (List.drop (0 + i * 3) (vmap V))).getD 0 (u')).strOf),AV.v (Value.int IntKind.i64 ((List.take 3 (List.drop (0 + i * 3) (vmap V))).getD 1 (u')).intOf),(List.take 3 (List.drop (0 + i * 3) (vmap V))).getD 2 (u')])).a (f' (Wk (AV.agg [AV.v (Value.string ((List.take 3 (List.drop (0 + i * 3) (vmap V))).getD 0 (u')).strOf),AV.v (Value.int IntKind.i64 ((List.take 3 (List.drop (0 + i * 3) (vmap V))).getD 1 (u')).intOf),(List.take 3 (List.drop (0 + i * 3) (vmap V))).getD 2 (u')]) (AV.agg [s' nm1,z' at',AV.v (sl' oa m k)]))))).a (h17' (k37'.a ((f' (findKey Tryz.prog (envW [(30,cClB p da)] (hSy i at' oa m k) [] default F) 9 (s' nm1) [(s' nm1,pt' 1002 0,st)] 0 = AP.ret (some (0,pt' 1002 0)))).a (k10'.a (((cp' True).a ((vw' [AV.slice 1003 0 p 1 (Cp.lo p)]).a (f' (OW (ce' (rowV encB da) 10) (ce' (AV.rens (fun k => match k with | 0 => 1003 | k => k) (rowV encB da)) 10))))).a (k10'.a ((k2' i).a k1')))))))))) := χ
abbrev k38' (q0 q1 : Nat) : Cnd := (wb' (decide (o' q0 < o' q1)) g')
theorem YB' (us : Int) (st ck p q z i : Nat) (da sa : Bs) (V : List Value) (PR : Mem -> Prop) (F : HP) : AS' [] (AC' [hf' fDs 1 0]) [] default fDs (A4' fDs 1) (tms 0 33 (aSy z i)) (uD (pV z) us st ck p q da sa (.cells (vmap V) tPw) PR) kS [0, 8, 9, 10] F = VT.leaf (AX.exit 0,[pt' 0 0,AV.slice 1005 0 z 3 (Cp.lo z),i' z,i' i],33) [some (ce' [AV.map 1001,AV.slice 1005 0 z 3 (Cp.lo z),i' 1099511627776,z' us] 142),some (AO.map [(s' nm1,pt' 1002 0,st)] ck),some (ce' [AV.slice 1003 0 p 1 (Cp.lo p),AV.slice 1004 0 q 1 (Cp.lo q)] 148),some (ce' (rowV encB da) 10),some (ce' (rowV encB sa) 10),some (ce' (vmap V) 182),some (AO.any (frz PR)),none,none,none,none,none,none] 1100 ((k38' i z).a k1') := χ
def lSy (us : Int) (st ck p q z : Nat) (da sa : Bs) (V : List Value) (PR : Mem -> Prop) : List AV -> AP (AX × List AV) := mkL (fun _ => .ret ()) (fun _ => True) (fun _ k => k) (fun _ => tms 0 33 (aSy z 0)) (fun _ => uD (pV z) us st ck p q da sa (.cells (vmap V) tPw) PR) (fun _ => .leaf (.exit 0) (tms 0 33 [(0, .ptr 0 0)]) (uD (pV z) us st ck p p da da (.cells (vmap V) tPw) PR))
theorem YA' (us sz : Int) (st ck p q z : Nat) (da sa : Bs) (V : List Value) (PR : Mem -> Prop) (F : HP) : wRun [] AV' [(fDs, 1, A4' fDs 1, lSy us st ck p q z da sa V PR)] default fLs [.ptr 2 0] (uD (pV z) us st ck p q da sa (.cells (vmap V) tPw) PR ++ [(2, lgC sz)]) kS F = VT.leaf (AV.tuple []) [some (ce' [AV.map 1100,e',i' 1099511627776,z' us] 142),none,none,none,none,none,none,some (ce' [pt' 0 0,s' nmL,i' 1,z' sz] 154),some (AO.map [(s' nm1,pt' 1101 0,st)] ck),some (ce' [AV.slice 1102 0 p 1 (Cp.lo p),AV.slice 1103 0 p 1 (Cp.lo p)] 148),some (ce' (AV.rens (sgN (fun k => k) [1001,1002,1003,1004,1005,1006] 1100) (rowV encB da)) 10),some (ce' (AV.rens (sgN (fun k => k) [1001,1002,1003,1004,1005,1006] 1100) (rowV encB da)) 10),some (ce' (AV.rens (sgN (fun k => k) [1001,1002,1003,1004,1005,1006] 1100) (vmap V)) 182)] 1106 (k10'.a (((fe' true).a ((p' ((fDs,1,A4' fDs 1,lSy us st ck p q z da sa V PR).snd.snd.fst = (fDs,1,A4' fDs 1,lSy us st ck p q z da sa V PR).snd.snd.fst)).a ((cp' True).a ((p' (VW (pt' 0 0::ru4 (pt' 0 0::pt' 0 0::pt' 0 1::AV.slice 1005 0 z 3 (Cp.lo z)::z' ↑z::i' 0::ru16 (ru4 (u'::u'::[])))) (pt' 0 0::ra4 (a'::a'::a'::AV.slice 1005 0 z 3 (Cp.lo z)::i' z::i' 0::ra16 (ra4 (a'::a'::[])))))).a ((ow' (ce' [AV.map 1001,AV.slice 1005 0 z 3 (Cp.lo z),i' 1099511627776,z' us] 142)).a ((ow' (AO.map [(s' nm1,pt' 1002 0,st)] ck)).a ((ow' (ce' [AV.slice 1003 0 p 1 (Cp.lo p),AV.slice 1004 0 q 1 (Cp.lo q)] 148)).a ((p' (OW (ce' (rowV encB da) 10) (ce' (AV.rens (fun k => k) (rowV encB da)) 10))).a ((p' (OW (ce' (rowV encB sa) 10) (ce' (AV.rens (fun k => k) (rowV encB sa)) 10))).a ((p' (OW (ce' (vmap V) 182) (ce' (AV.rens (fun k => k) (vmap V)) 182))).a ((ow' (AO.any (frz PR))).a ((fe' true).a t')))))))))))).a k1')) := χ
theorem Y8' (us sz : Int) (st ck p q : Nat) (da sa : Bs) (O : AO) (PR : Mem -> Prop) (F : HP) : wRun [] AV' [] default fLs [.ptr 2 0] (uD nilS us st ck p q da sa O PR ++ [(2, lgC sz)]) kS F = VT.ite false (VT.bad "indexAddr") (VT.leaf (AV.tuple []) [some (ce' [AV.map 1001,e',i' 1099511627776,z' us] 142),some (AO.map [(s' nm1,pt' 1002 0,st)] ck),some (ce' [AV.slice 1003 0 p 1 (Cp.lo p),AV.slice 1004 0 q 1 (Cp.lo q)] 148),some (ce' (rowV encB da) 10),some (ce' (rowV encB sa) 10),some O,some (AO.any (frz PR)),some (ce' [pt' 0 0,s' nmL,i' 1,z' sz] 154),none,none,none,none,none] 1100 (k10'.a (((fe' true).a ((fe' true).a t')).a k1'))) := χ
end
def AtV (V : List Value) (z : Nat) : Prop := ∀ i, i < z -> ∃ (n : Nat) (oa : Option Addr) (m k : Nat), List.take 3 (List.drop (0 + i * 3) (vmap V)) = [sv nm1, iv (o' n), slV oa m k]
theorem V5' : ∀ (xs : List Rs) (o i : Nat) (x : Rs), xs[i]? = some x -> List.take 3 (List.drop (0 + i * 3) (vmap (pwV o xs))) = [sv nm1, iv (o' (o + lenR (xs.take i))), slV x.a x.d.length x.c]
 | [], o, i, x, h => by simp at h
 | y :: xs, o, 0, x, h => by
  simp only [List.getElem?_cons_zero, Option.some.injEq] at h; subst h; rfl
 | y :: xs, o, i + 1, x, h => by
  have := V5' xs (o + y.d.length) i x (by simpa using h); rw [List.take_succ_cons, J6', <- Nat.add_assoc, <- this]
  have e : 0 + (i + 1) * 3 = (0 + i * 3) + 3 := ω
  rw [e]; rfl
theorem XD' (xs : List Rs) (o : Nat) : AtV (pwV o xs) xs.length := fun i hi => ⟨_, _, _, _, V5' xs o i _ (List.getElem?_eq_getElem hi)⟩
theorem WJ' (us : Int) (q z : Nat) (hz : 0 < z) (hzb : z < 1099511627776) (da sa : Bs) (hb : da.length <= big) (hp : 0 < da.length) (V : List Value) (hV : AtV V z) (PR : Mem -> Prop) :
  LTri Θ default (A4' fDs 1) (tms 0 33 (aSy z 0)) (uD (pV z) us mSt mCk da.length q da sa (.cells (vmap V) tPw) PR) (.exit 0) (tms 0 33 [(0, .ptr 0 0)]) (uD (pV z) us mSt mCk da.length da.length da da (.cells (vmap V) tPw) PR) := by
 refine AT' (W := default) (g := fDs) (b := A4' fDs 1) (σ := {s : Nat × Nat × Bs // s.1 <= z /\ ((s.1 = 0 /\ s.2 = (q, sa)) \/ (s.2 = (da.length, da)))}) 33 (fun s => aSy z s.1.1) (fun s => uD (pV z) us mSt mCk da.length s.1.2.1 da s.1.2.2 (.cells (vmap V) tPw) PR) (.exit 0) [(0, .ptr 0 0)] (uD (pV z) us mSt mCk da.length da.length da da (.cells (vmap V) tPw) PR) (fun s => z - s.1.1) kS [0, 8, 9, 10] (by intro h; cases h) (fun _ => rfl) rfl ?_ ⟨(0, q, sa), Nat.zero_le _, .inl ⟨rfl, rfl⟩⟩; rintro ⟨⟨i, q', sa'⟩, hi, hs⟩; simp only at hi hs ⊢
 by_cases h1 : i < z
 ·obtain ⟨n, oa, m, k, he⟩ := hV i h1; have e1 : decide (o' i < o' z) = true := ltTN h1; have hw := BR' i ω
  have hbl : i.blt z = true := by rw [Nat.blt_eq]; exact h1
  refine ⟨[(fCl, cClB da.length da)], hSy i (o' n) oa m k, [], fun F hF => BA' (BP' hb hp F), fun _ _ => noL, fun F => ?_⟩
  refine Yj (Y9' us (o' n) mSt mCk da.length q' z i m k oa da sa' V PR F) ⟨⟨?_, rfl, .inl ⟨rfl, ⟨(i + 1, da.length, da), h1, .inr rfl⟩, BL' h1, [(1001, 1001), (1002, 1002), (1003, 1003), (1004, 1101), (1005, 1005), (1006, 1006)], by kernel_rfl, by kernel_rfl, ⟨Ya, Ya, Ya, Ya, Ye⟩, ⟨_, rfl, Yc⟩, ⟨_, rfl, Yc⟩, ⟨_, rfl, Yc⟩, ⟨_, rfl, A5' (A1' _ _) rfl⟩, ⟨_, rfl, A5' (A1' _ _) rfl⟩, ⟨_, rfl, OW.of_eq (by simp only [AO.ren, AW'])⟩, ⟨_, rfl, Yc⟩, Ye⟩⟩⟩
  simp only [ch', he, hbl, true_and, and_true]; and_intros; all_goals first | (with_reducible exact GW' hw) | (with_reducible exact A3' e1) | (with_reducible exact Ye) | (with_reducible exact rfl) | (with_reducible exact Ya) | (with_reducible exact Yb) | (with_reducible exact Yc) | exact rfl | exact Ya | exact Yb | (refine OW.of_eq ?_; simp only [AO.ren, A1']; done)
 ·have hie : i = z := ω
  subst hie
  have hq : q' = da.length /\ sa' = da := by
   rcases hs with ⟨h, _⟩ | h
   ·omega
   ·cases h; exact ⟨rfl, rfl⟩
  obtain ⟨rfl, rfl⟩ := hq
  refine ⟨[], AC' [hf' fDs 1 0], [], fun _ _ => noC, fun _ _ => noL, fun F => ?_⟩
  refine Yj (YB' us mSt mCk sa'.length sa'.length i i sa' sa' V PR F) ⟨⟨?_, rfl, .inr ⟨rfl, [(1001, 1001), (1002, 1002), (1003, 1003), (1004, 1004), (1005, 1005), (1006, 1006)], by kernel_rfl, by kernel_rfl, ⟨Ya, Ye⟩, ⟨_, rfl, Yc⟩, ⟨_, rfl, Yc⟩, ⟨_, rfl, Yc⟩, ⟨_, rfl, A5' rfl rfl⟩, ⟨_, rfl, A5' rfl rfl⟩, ⟨_, rfl, OW.of_eq (by simp only [AO.ren, AW'])⟩, ⟨_, rfl, Yc⟩, Ye⟩⟩⟩
  simp only [ch', and_true]; exact A3' (ltFN (Yd))
def uD5 (us : Int) (p q : Nat) (da sa : Bs) : LH := [(0, dkC nilS us), (1001, mpO mSt mCk), (1002, fiC p q), (1003, rB da), (1004, rB sa)]
theorem O6' {S : List Bs} (hd : (([0, 1001, 1002, 1003, 1004, 1005, 1006] : List Nat).all fun i => (getO H0 i).isNone) = true) (hl : AD' 1100 H0 = true)
  (hv : AV.cls (fun i => Nat.blt i 1000 || (getO H0 i).isSome) vs) (ho : ∀ x ∈ H0, x.2.cl (fun i => Nat.blt i 1000 || (getO H0 i).isSome)) :
  Goes vs (uD5 (o' (cat S).length) (cat S).length (cat S).length (cat S) (cat S) ++ H0) vs ((0, dO S []) :: H0) := by
 have hd' := hd; simp only [List.all_cons, List.all_nil, Bool.and_true, Bool.and_eq_true, Option.isNone_iff_eq_none] at hd'; obtain ⟨n0, n1, n2, n3, n4, n5, n6⟩ := hd'; have hl' : (H0.all fun x => Nat.blt x.1 1100) = true := hl; have e0 : S ++ [] = S := List.append_nil S
 have g1 : Goes vs (uD5 (o' (cat S).length) (cat S).length (cat S).length (cat S) (cat S) ++ H0) vs (uD5 (o' (cat S).length) (cat S).length (cat S).length (cat S) (cat S) ++ ((1005, dumZ) :: H0)) := by
  refine CL' (k := 1005) (P := fun _ => True) (fun C => trivial) ?_ ?_ rfl δ ?_ (fun n hn => ?_)
  ·simp only [AD', uD5, List.cons_append, List.nil_append, List.all_cons, hl']; rfl
  ·simp only [AD', uD5, List.cons_append, List.nil_append, List.all_cons, hl']; rfl
  ·exact n5
  ·simp only [uD5, List.cons_append, List.nil_append, getO, if_neg hn]
 have g2 : Goes vs (uD5 (o' (cat S).length) (cat S).length (cat S).length (cat S) (cat S) ++ ((1005, dumZ) :: H0)) vs (dkL S [] [] ++ H0) := by
  refine CL' (k := 1006) (P := PB []) (fun C x hx => by cases hx) ?_ ?_ rfl δ ?_ (fun n hn => ?_)
  ·simp only [AD', uD5, List.cons_append, List.nil_append, List.all_cons, hl']; rfl
  ·simp only [AD', dkL, uD, List.cons_append, List.nil_append, List.all_cons, hl']; rfl
  ·exact n6
  ·simp only [uD5, dkL, uD, List.cons_append, List.nil_append, getO, if_neg hn, e0]; rfl
 exact (g1.trans g2).trans (V2' [] rfl hd hl hv ho)
theorem sy_run (us sz : Int) (q z : Nat) (hz : 0 < z) (hzb : z < 1099511627776) (da sa : Bs) (hb : da.length <= big) (hp : 0 < da.length) (V : List Value) (hV : AtV V z) (PR : Mem -> Prop) :
  Tri Θ default fLs [.ptr 2 0] (uD (pV z) us mSt mCk da.length q da sa (.cells (vmap V) tPw) PR ++ [(2, lgC sz)]) (.tuple []) (uD5 us da.length da.length da da ++ [(2, lgC sz)]) := by
 have hL : ∀ F, AF' default F -> L1OK Θ F (A4' fDs 1) (lSy us mSt mCk da.length q z da sa V PR) := fun F hF =>
  B7' hF (fun _ => RO.ret _) (fun _ _ => WJ' us q z hz hzb da sa hb hp V hV PR) fun _ => by
   simp only [RT.pick]; refine AY' rfl rfl (A0' rfl (A0' rfl (A0' Ye (A0' Ye A2')))) (A0' ⟨rfl, rfl, Ye, Ye, Ye⟩ (A0' ⟨Ye, rfl, Ye⟩ (A0' ⟨rfl, rfl, Ye⟩ (A0' (AB' _ _) (A0' (AB' _ _) (A0' (BM' _ _) (A0' Ye A2'))))))) (A0' rfl A2') (A0' ⟨rfl, rfl, Ye, Ye, Ye⟩ (A0' ⟨Ye, rfl, Ye⟩ (A0' ⟨rfl, rfl, Ye⟩ (A0' (AB' _ _) (A0' (AB' _ _) (A0' (BM' _ _) (A0' Ye A2')))))))
 refine AJ' (con := []) (hints := AV') (lc := [(fDs, 1, A4' fDs 1, lSy us mSt mCk da.length q z da sa V PR)]) kS χ (fun F _ => noC) (fun F hF => CK' (hL F hF)) fun F => ?_
 refine Yj (YA' us sz mSt mCk da.length q z da sa V PR F) ⟨⟨?_, (AR' (vs' := [.tuple []]) (H' := [(0, dkC nilS us), (1001, mpO mSt mCk), (1002, fiC da.length da.length), (1003, rB da), (1004, rB da), (2, lgC sz)]) [(1001, 1100), (1002, 1101), (1003, 1102), (1004, 1103)] χ χ (Yb) ⟨⟨_, rfl, Yc⟩, ⟨_, rfl, Yc⟩, ⟨_, rfl, Yc⟩, ⟨_, rfl, A5' (A1' _ _) rfl⟩, ⟨_, rfl, A5' (A1' _ _) rfl⟩, ⟨_, rfl, Yc⟩, Ye⟩).fits χ⟩⟩
 simp only [ch', true_and, and_true]; and_intros; all_goals first | (with_reducible exact Ye) | (with_reducible exact rfl) | (with_reducible exact Ya) | (with_reducible exact Yb) | (with_reducible exact Yc) | exact rfl | exact Yc | (refine OW.of_eq ?_; simp only [AO.ren, A1']; done) | exact Kw30'
theorem WI' (us sz : Int) (p q : Nat) (da sa : Bs) (O : AO) (PR : Mem -> Prop) :
  Tri Θ default fLs [.ptr 2 0] (uD nilS us mSt mCk p q da sa O PR ++ [(2, lgC sz)]) (.tuple []) (uD5 us p q da sa ++ [(2, lgC sz)]) := by
 refine AJ' (con := []) (hints := AV') (lc := []) kS χ (fun F _ => noC) (fun F hF => noL) fun F => ?_
 refine Yj (Y8' us sz mSt mCk p q da sa O PR F) ⟨fun h => (by cases h), fun _ => ⟨?_, (AR' (vs' := [.tuple []]) (H' := [(0, dkC nilS us), (1001, mpO mSt mCk), (1002, fiC p q), (1003, rB da), (1004, rB sa), (2, lgC sz)]) [(1001, 1001), (1002, 1002), (1003, 1003), (1004, 1004)] χ χ (Yb) ⟨⟨_, rfl, Yc⟩, ⟨_, rfl, Yc⟩, ⟨_, rfl, Yc⟩, ⟨_, rfl, A5' rfl rfl⟩, ⟨_, rfl, A5' rfl rfl⟩, ⟨_, rfl, Yc⟩, Ye⟩).fits χ⟩⟩
 simp [ch']
theorem sy_tri (S rs : List Bs) (sz : Int) (h0 : 0 < (cat S).length) (hz : (cat (S ++ rs)).length <= 1099511627776) (hk : rs.length < 1099511627776) : Tri Θ default fLs [.ptr 2 0] [(0, dO S rs), (2, lgC sz)] (.tuple []) [(0, dO (S ++ rs) []), (2, lgC sz)] := by
 refine PF' (H0 := [(2, lgC sz)]) (by rfl) χ fun xs hx => ?_
 have hg := O6' (S := S ++ rs) (vs := [.tuple []]) (H0 := [(2, lgC sz)]) (by rfl) χ ⟨Ye, Ye⟩ (A0' ⟨rfl, Ye, Ye, Ye, Ye⟩ A2')
 have hxl : xs.length = rs.length := by have := congrArg List.length hx; simpa using this
 have hlen : 0 < (cat (S ++ rs)).length := by rw [JI', la']; omega
 cases xs with
 | nil =>
  obtain rfl : rs = [] := List.length_eq_zero_iff.1 hxl.symm; rw [List.append_nil] at hg ⊢; have := WI' (o' (cat (S ++ [])).length) sz (cat (S ++ [])).length (cat S).length (cat (S ++ [])) (cat S) dumZ (PB []); rw [List.append_nil] at this; rw [dkL, List.append_nil]; exact Tri.post this hg
 | cons x xs =>
  exact Tri.post (sy_run (o' (cat (S ++ rs)).length) sz (cat S).length (xs.length + 1) ω (by simp only [lc'] at hxl; omega) (cat (S ++ rs)) (cat S) (by show _ <= 140737488351232; omega) hlen (pwV (cat S).length (x :: xs)) (XD' (x :: xs) _) (PB (x :: xs))) hg
abbrev fSo : Nat := 49
abbrev fKy : Nat := 66
abbrev fDo : Nat := 9
abbrev fWo : Nat := 11
def cSo : List AV -> Option (AP AV) := fun args => match args with
 | [.func (.func g) [] [.ptr i 0]] => match Nat.beq g fKy with
  | true => some (EU' 9 i)
  | false => none
 | _ => none
theorem HH' (F : HP) : C1OK Θ F fSo cSo := by
 intro st W0 N h w1 args vargs v h' n n' lg lg' c p hp he hc r ha hf; unfold cSo at hp; split at hp
 ·rename_i g i
  have hva : ∃ l, N i = some l /\ vargs = #[.func (.func g) #[] #[.pointer (some ⟨l.blk, l.off + 0, none⟩)]] := by
   obtain ⟨y, r0, h1, h2, h3⟩ := (by simpa only [VRs] using ha : ∃ y r, VR N (.func (.func g) [] [.ptr i 0]) y /\ r = [] /\ vargs.toList = y :: r); subst h2; simp only [VR] at h1; obtain ⟨f', c', q1, q2, rfl⟩ := h1; simp only [VRs] at q1; subst q1; obtain ⟨z, r1, q3, q4, rfl⟩ := (by simpa only [VRs] using q2 : ∃ y r, VR N (.ptr i 0) y /\ r = [] /\ c' = y :: r); subst q4; simp only [VR] at q3; obtain ⟨l, hl, rfl⟩ := q3
   exact ⟨l, hl, by apply Array.ext'; simpa using h3⟩
  obtain ⟨l, hl, rfl⟩ := hva; split at hp
  ·rename_i hg; have hg := Nat.eq_of_beq_eq_true hg; subst hg; cases hp; exact EF' χ RE' r hl hf he
  ·cases hp
 ·cases hp
def cGn : List AV -> Option (AP AV) := mkC (fun args => match args with | [.v (.string s)] => .ret s | _ => .fail "name") (fun s => s = nm1 \/ s = nmL) (fun _ k => k) (fun s => [sv s]) (fun _ => []) (fun _ => .leaf .ret [bv true] [])
theorem cGn_ok (F : HP) : C1OK Θ F fGn cGn :=
 AX' (W := default) B8' (fun _ => bv true) (fun args => by split <;> first | exact RO.ret _ | exact RO.fail _) (fun _ => rfl) (fun s h => by
  rcases h with rfl | rfl
  ·exact HW' _
  ·exact S6' _) fun s => ⟨rfl, rfl, ⟨Ye, Ye⟩, A2', ⟨Ye, Ye⟩, A2'⟩
def cWz (n : Nat) (w : Bs) : List AV -> Option (AP AV) := mkC (fun _ => .ret ()) (fun _ => True) (fun _ k => k) (fun _ => [nilS]) (fun _ => []) (fun _ => .leaf .ret [.tuple [sB 1000 n, iv 0]] [(1000, rB w)])
theorem cWz_ok (hN : LN W) (F : HP) (hF : AF' W F) : C1OK Θ F fWp (cWz (AH' []).length (AH' [])) :=
 AX' hF (fun _ => .tuple [sB 1000 (AH' []).length, iv 0]) (fun _ => RO.ret _) (fun _ => rfl) (fun _ _ => KO' W hN none 0 [] ⟨Nat.zero_le _, fun i b hb => by simp at hb⟩ (Nat.zero_le _)) fun _ => ⟨rfl, rfl, ⟨Ye, Ye⟩, A2', ⟨⟨rfl, Ye, Ye⟩, Ye⟩, A0' (AB' _ _) A2'⟩
def dkZ : AO := .cells [.map 1001, nilS, iv 1099511627776, iv 0] tDk
def dZL : LH := [(0, dkZ), (1001, .map [] 0)]
def dZ : AO := .own .nothing (exHP (fun _ : Unit => True) (fun _ => dZL))
theorem open_z (h : Tri Θ W f A dZL v H') : Tri Θ W f A [(0, dZ)] v H' :=
 Tri.open (R := fun _ : Unit => True) (L := fun _ => dZL) (H0 := []) (fun _ => rfl) (fun _ => A0' ⟨rfl, Ye, Ye, Ye, Ye⟩ (A0' Ye A2')) (fun _ => ⟨_, rfl⟩) fun _ _ => by rw [List.append_nil]; exact h
noncomputable section
theorem aY' (F : HP) : wRun [] AV' [] default fDo [nilS, iv 1099511627776] [] [1100, 1101, 1102, 1103] F = VT.ite false (VT.bad "indexAddr") (VT.leaf (AV.tuple [pt' 1101 0,i' 0]) [some (AO.map [] 0),some (ce' [AV.map 1100,e',i' 1099511627776,i' 0] 142),none,none] 1102 k1') := χ
def conOz (n : Nat) (w : Bs) : E7' := [(fGn, cGn), (fCt, cK [sv nmL, sv nmP] (bv false)), (fSo, cSo), (fWp, cWz n w), (fIt, cK [iv 1] (sv nmO)), (fCl, cClB n w)]
def hOz (n : Nat) : BD' := AC' [hf' fWo 1 2, hf' fWo 1 6, hf' fWo 1 11, hf' fWo 6 0, hf' fWo 16 0, hf' fWo 22 4, hf' fWo 27 1, (fFl, 1, 4, hv (sv nmD)), (fFl, 1, 7, hv (sv nm1)), hf' fPt 2 1, hf' fDa 1 2, hf' fDa 3 8, hf' fDa 3 21, ht' fDa 6 1, (fDa, 11, 6, hv (iv (o' n))), ht' fAp 2 1, (fAp, 3, 5, hv (iv (o' n)))]
def kOz : List Nat := [0, 1001, 1100, 1101, 1102, 1103, 1104, 1105, 1106, 1107, 1108, 1109, 1110, 1111, 1112, 1113, 1114, 1115, 1116]
abbrev y0' : Δ := ByteArray.mk (Array.mk [46])
abbrev k39' (q0 : Nat) (q1 : Bs) (q2 : World) (q3 : HP) (q4 q5 q6 q7 : Nat) : Cnd := ((ee' (i' 1)).a ((((p' True).a (f' (VW [e'] [e']))).a ((f' (Wk (b' false) g')).a ((fe' true).a (((ee' (s' nmL)).a ((f' (Wk (s' (nmL ++ ByteArray.mk (Array.mk [46]))) (s' nmD))).a (((p' True).a (f' (VW [i' 1] [i' 1]))).a ((f' (Wk (s' (nmD ++ nmO)) (s' nm1))).a t')))).a ((((p' (nm1 = nm1 \/ nm1 = nmL)).a (f' (VW [s' nm1] [s' nm1]))).a ((f' (Wk (b' false) g')).a ((ee' (i' 1099511627776)).a ((ee' (i' 0)).a ((f' (Wk (b' false) g')).a ((ee' (i' 1099511627776)).a ((ee' (i' 0)).a ((wb' (decide (↑q0 > o' 1099511627776)) g').a ((fe' true).a ((f' (findKey Tryz.prog (envW [(29,cGn),(31,cK [s' nmL,s' nmP] (b' false)),(49,cSo),(60,cWz q0 q1),(56,cK [i' 1] (s' nmO)),(30,cClB q0 q1)] (hOz q0) [] q2 q3) 9 (s' nm1) [] 0 = AP.ret none)).a ((f' (Wk (b' true) j')).a ((fe' true).a (((p' (findKey Tryz.prog (envW [(29,cGn),(31,cK [s' nmL,s' nmP] (b' false)),(49,cSo),(60,cWz q0 q1),(56,cK [i' 1] (s' nmO)),(30,cClB q0 q1)] (hOz q0) [] q2 q3) 9 (s' nm1) [] 0 = AP.ret none)).a (f' (CN' (s' nm1) []))).a ((fe' true).a ((fe' true).a (((p' True).a ((vw' [AV.slice q4 0 q0 1 (Cp.lo q0)]).a (f' (OW (ce' (AV.rens (sgN (fun k => k) [q5] q4) (rowV encB q1)) 10) (ce' (AV.rens (fun k => match k with | 0 => sgN ((fun x k => k) ()) (newL [(q5,rB q1)]) (q6 + 1 + 1 + 1) q5 | k => k) (rowV encB q1)) 10))))).a ((tt'.a (tt'.a (tt'.a (tt'.a (ee' true))))).a ((fe' true).a ((fe' true).a (((p' (q0.ble q0 = true)).a ((p' ((List.take (q0 * 1) (List.drop 0 (AV.rens (sgN (fun k => match k with | 0 => sgN ((fun x k => k) ()) (newL [(q5,rB q1)]) (q6 + 1 + 1 + 1) q5 | k => k) [q5] q7) (rowV encB q1)))).length.beq (q0 * 1) = true)).a ((p' ((List.take (q0 * 1) (List.drop 0 (AV.rens (sgN (fun k => match k with | 0 => sgN ((fun x k => k) ()) (newL [(q5,rB q1)]) (q6 + 1 + 1 + 1) q5 | k => k) [q5] q7) (rowV encB q1)))).all AV.one = true)).a ((p' (Nat.blt 0 q0 = true)).a ((p' ((q0 * 1).ble 140737488355328 = true)).a (f' (q0.ble 9223372036854775807 = true))))))).a ((fe' true).a ((ee' (i' 0)).a ((f' (Wk (z' (IntKind.i64.wrap (o' 0 + ↑q0))) (i' q0))).a ((fe' true).a t')))))))))))))))))))))))).a t'))))).a ((f' (Wk (b' true) j')).a ((ee' (i' 0)).a ((f' (Wk (z' (IntKind.i64.wrap (o' 0 + ↑q0))) (i' q0))).a ((fe' true).a t'))))))
abbrev h40' (z : Cnd) : Cnd := ((ee' (i' 0)).a ((f' (Wk (b' false) g')).a z))
abbrev h41' (z : Cnd) : Cnd := ((f' (Wk (b' false) g')).a (((fe' true).a t').a z))
abbrev h42' (z : Cnd) : Cnd := ((f' (Wk (b' false) g')).a ((f' (Wk (b' false) g')).a (((p' True).a (f' (VW [s' nmL,s' y0'] [s' nmL,s' nmP]))).a ((f' (Wk (b' false) g')).a (((fe' true).a t').a z)))))
abbrev k43' : Cnd := ((p' (nmL = nm1 \/ nmL = nmL)).a (f' (VW [s' nmL] [s' nmL])))
theorem XL' (W : World) (n : Nat) (w : Bs) (F : HP) : wRun (conOz n w) (hOz n) [] W fWo [.ptr 0 0, sv nmL] dZL kOz F = VT.ite true (VT.ite false (VT.bad "store one cell each") (VT.leaf (AV.tuple [pt' 1100 0,AV.slice 1111 0 1 1 (Cp.ex 1),i' 0]) [some (ce' [AV.map 1001,e',i' 1099511627776,i' n] 142),some (AO.map [(s' nm1,pt' 1104 0,0)] 1),some (ce' [pt' 0 0,s' nmL,i' 1,i' n] 154),some (ce' [AV.map 1001] 136),some (ce' [AV.map 1001] 136),some (ce' (AV.rens (sgN (fun k => match k with | 0 => sgN ((fun x k => k) ()) (newL [(1000,rB w)]) (1100 + 1 + 1 + 1) 1000 | k => k) [1000] 1105) (rowV encB w)) 10),some (ce' [AV.slice 1108 0 n 1 (Cp.lo n),AV.slice 1110 0 n 1 (Cp.lo n)] 148),some (ce' (AV.rens (sgN (fun k => match k with | 0 => sgN ((fun x k => k) ()) (newL [(1000,rB w)]) (1100 + 1 + 1 + 1) 1000 | k => k) [1000] 1105) (rowV encB w)) 10),some (ce' [s' nm1,i' 0,AV.slice 1105 0 n 1 (Cp.lo n)] 182),some (ce' [s' nm1,i' 0,AV.slice 1105 0 n 1 (Cp.lo n)] 182),some (ce' (AV.rens (sgN (fun k => match k with | 0 => 1100 + 1 + 1 + 1 + 1 + 1 + 1 + 1 + 1 | k => k) [1000] 1110) (rowV encB w)) 10),some (ce' [s' nm1,i' 0,AV.slice 1105 0 n 1 (Cp.lo n)] 182),some (ce' (AV.rens (sgN (fun k => match k with | 0 => 1100 + 1 + 1 + 1 + 1 + 1 + 1 + 1 + 1 | k => k) [1000] 1110) (rowV encB w)) 10),some (ce' [e'] 98),none,none,none,none,none] 1112 (k43'.a (h42' (h41' (k7'.a (h40' (k10'.a ((k39' n w W F 1103 1000 1100 1105).a (k7'.a (((fe' true).a (((fe' true).a ((fe' true).a ((ee' [s' nm1,i' 0,AV.slice 1105 0 n 1 (Cp.lo n)]).a ((fe' true).a ((fe' true).a ((ee' (s' nm1)).a ((f' (findKey Tryz.prog (envW [(29,cGn),(31,cK [s' nmL,s' nmP] (b' false)),(49,cSo),(60,cWz n w),(56,cK [i' 1] (s' nmO)),(30,cClB n w)] (hOz n) [] W F) 9 (s' nm1) [(s' nm1,pt' 1104 0,0)] 0 = AP.ret (some (0,pt' 1104 0)))).a ((fe' true).a (((cp' True).a ((vw' [AV.slice 1108 0 n 1 (Cp.lo n)]).a (f' (OW (ce' (List.take (n * 1) (List.drop 0 (AV.rens (sgN (fun k => match k with | 0 => sgN ((fun x k => k) ()) (newL [(1000,rB w)]) (1100 + 1 + 1 + 1) 1000 | k => k) [1000] 1105) (rowV encB w)))) 10) (ce' (AV.rens (fun k => match k with | 0 => 1100 + 1 + 1 + 1 + 1 + 1 + 1 + 1 + 1 | k => k) (rowV encB w)) 10))))).a ((fe' true).a ((fe' true).a t'))))))))))).a t')).a k1'))))))))))) (VT.leaf (AV.tuple [pt' 1100 0,AV.slice 1109 0 1 1 (Cp.ex 1),i' 0]) [some (ce' [AV.map 1001,e',i' 1099511627776,i' n] 142),some (AO.map [(s' nm1,pt' 1104 0,0)] 1),some (ce' [pt' 0 0,s' nmL,i' 1,i' n] 154),some (ce' [AV.map 1001] 136),some (ce' [AV.map 1001] 136),some (ce' (AV.rens (sgN (fun k => match k with | 0 => sgN ((fun x k => k) ()) (newL [(1000,rB w)]) (1100 + 1 + 1 + 1) 1000 | k => k) [1000] 1105) (rowV encB w)) 10),some (ce' [AV.slice 1108 0 n 1 (Cp.lo n),e'] 148),some (ce' (AV.rens (sgN (fun k => match k with | 0 => sgN ((fun x k => k) ()) (newL [(1000,rB w)]) (1100 + 1 + 1 + 1) 1000 | k => k) [1000] 1105) (rowV encB w)) 10),some (ce' [s' nm1,i' 0,AV.slice 1105 0 n 1 (Cp.lo n)] 182),some (ce' [s' nm1,i' 0,AV.slice 1105 0 n 1 (Cp.lo n)] 182),some (ce' (List.take (n * 1) (List.drop 0 (AV.rens (sgN (fun k => match k with | 0 => sgN ((fun x k => k) ()) (newL [(1000,rB w)]) (1100 + 1 + 1 + 1) 1000 | k => k) [1000] 1105) (rowV encB w)))) 10),some (ce' [e'] 98),none,none,none,none,none,none,none] 1110 (k43'.a (h42' (h41' (k7'.a (h40' (k10'.a ((k39' n w W F 1103 1000 1100 1105).a (k7'.a (((fe' true).a (((fe' true).a ((fe' true).a t')).a t')).a k1')))))))))) := χ
end
theorem I8' {a b : List AV} (h : VW a b) : Wk (.tuple a) (.tuple b) := fun N y hy => by
 simp only [VR] at *; obtain ⟨vs, h1, rfl⟩ := hy; exact ⟨vs, h N vs h1, rfl⟩
theorem CM' (k : AV) : CN' k [] := fun j v h => by simp [C4'] at h
theorem do_z : Tri Θ default fDo [nilS, iv 1099511627776] [] (.tuple [.ptr 1000 0, iv 0]) [(1000, dZ)] := by
 refine AJ' (con := []) (hints := AV') (lc := []) [1100, 1101, 1102, 1103] rfl (fun _ _ => noC) (fun F _ => noL) fun F => ?_
 refine Yj (aY' F) ⟨fun h => (by cases h), fun _ => ⟨Ye, [.tuple [.ptr 1000 0, iv 0]], [(1000, dkZ), (1001, .map [] 0)], [(1000, 1101), (1001, 1100)], rfl, AR' (vs' := [.tuple [.ptr 1000 0, iv 0]]) (H' := [(1000, dkZ), (1001, .map [] 0)]) _ χ χ (Yb) ⟨⟨_, rfl, Yc⟩, ⟨_, rfl, Yc⟩, Ye⟩, ?_⟩⟩
 exact Goes.shutNew (R := fun _ : Unit => True) (L := fun _ => dZL) (m := .nothing) 1000 δ () trivial χ χ ⟨_, _, rfl, by kernel_rfl⟩ ⟨⟨rfl, Ye, Ye⟩, Ye⟩
theorem d8' : cat [[]] = AH' [] := by simp [cat]
theorem wo_run (W : World) (w : Bs) (hW : ∀ F, AF' W F -> C1OK Θ F fWp (cWz w.length w)) (hcl : ∀ F, C1OK Θ F fCl (cClB w.length w)) (h0 : 0 < w.length) (hb : w.length <= 1048584) :
  Tri Θ W fWo [.ptr 0 0, sv nmL] dZL (.tuple [.ptr 1020 0, .slice 1021 0 1 1 (.lo 1), iv 0]) (uD5 (o' w.length) w.length w.length w w ++ [(1020, lgC (o' w.length)), (1021, .cells [nilS] tRb)]) := by
 have hrl : (rowV encB w).length = w.length := BJ' w; have f2 : decide ((w.length : Int) > o' 1099511627776) = false := decide_eq_false (by simp only [Z0]; omega)
 have hus : IntKind.i64.wrap (o' 0 + (w.length : Int)) = o' w.length := by
  rw [IntWalk.i64_in _ (by simp only [Z0]; omega)]; simp only [Z0]; omega
 have w1 : w.length.ble w.length = true := AP' (Yd)
 have w2 : ∀ σ : Nat -> Nat, List.take (w.length * 1) (List.drop 0 (AV.rens σ (rowV encB w))) = rowV encB w := fun σ => by
  rw [A1', List.drop_zero, List.take_of_length_le (by rw [hrl, Nat.mul_one]; exact Yd)]
 have w3 : (rowV encB w).length.beq (w.length * 1) = true := by rw [hrl, Nat.mul_one]; exact Nat.beq_refl _
 have w4 : (rowV encB w).all AV.one = true := by have := LU' w (fun x => x); rwa [w2] at this
 have w5 : (w.length * 1).ble 140737488355328 = true := AP' ω; have w6 : w.length.ble 9223372036854775807 = true := AP' ω
 refine AJ' (con := conOz w.length w) (hints := hOz w.length) (lc := []) kOz rfl (fun F hF => A7' (cGn_ok F) (A7' (DQ' (KK' _) (fun K => ⟨Ye, Ye, Ye⟩) (fun K => trivial) F) (A7' (HH' F) (A7' (hW F hF) (A7' (DQ' (GB' _) (fun K => ⟨Ye, Ye⟩) (fun K => trivial) F) (BA' (hcl F))))))) (fun F _ => noL) fun F => ?_
 refine Yj (XL' W w.length w F) ⟨fun _ => ⟨fun h => (by cases h), fun _ => ⟨?_, (AR' (vs' := [.tuple [.ptr 1020 0, .slice 1021 0 1 1 (.lo 1), iv 0]]) (H' := [(0, dkC nilS (o' w.length)), (1001, mpO mSt mCk), (1002, fiC w.length w.length), (1003, rB w), (1004, rB w), (1020, lgC (o' w.length)), (1021, .cells [nilS] tRb)]) [(1001, 1001), (1002, 1104), (1003, 1108), (1004, 1110), (1020, 1100), (1021, 1111)] χ χ (VW.cons (I8' (VW.cons Ya (VW.cons (G6' (Yd)) (Yb)))) (Yb)) ⟨⟨_, rfl, Yc⟩, ⟨_, rfl, Yc⟩, ⟨_, rfl, Yc⟩, ⟨_, rfl, A5' (A1' _ _) rfl⟩, ⟨_, rfl, A5' (A1' _ _) rfl⟩, ⟨_, rfl, Yc⟩, ⟨_, rfl, Yc⟩, Ye⟩).fits χ⟩⟩, fun h => (by cases h)⟩
 simp only [ch', Nat.blt_eq, true_and, and_true, w1, w2, w3, w4, w5, w6, h0]; and_intros; all_goals first | (with_reducible exact Ye) | (with_reducible exact rfl) | (with_reducible exact Ya) | (with_reducible exact Yb) | (with_reducible exact Yc) | (with_reducible exact A3' f2) | (with_reducible exact AL' hus) | (with_reducible exact A3' rfl) | exact CM' _ | exact .inl trivial | exact .inr trivial | exact A3' rfl | exact rfl | exact Ya | exact Yb | exact Yc | (refine OW.of_eq ?_; simp only [AO.ren, A1']; done) | exact Ye
theorem wo_z (W : World) (hN : LN W) : Tri Θ W fWo [.ptr 0 0, sv nmL] [(0, dZ)] (.tuple [.ptr 1020 0, .slice 1021 0 1 1 (.lo 1), iv 0]) [(0, dO [[]] []), (1020, lgC (o' (cat [[]]).length)), (1021, .cells [nilS] tRb)] := by
 have hl : (AH' []).length = 8 := B2' []; refine open_z ?_; have := wo_run W (AH' []) (fun F hF => cWz_ok hN F hF) (fun F => BP' (l := AH' []) (by rw [hl]; decide) ω F) ω ω; rw [<- d8'] at this; exact Tri.post this (O6' (S := [[]]) (H0 := [(1020, lgC (o' (cat [[]]).length)), (1021, .cells [nilS] tRb)]) (by rfl) χ ⟨⟨rfl, rfl, Ye, Ye⟩, Ye⟩ (A0' ⟨rfl, Ye, Ye, Ye, Ye⟩ (A0' ⟨Ye, Ye⟩ A2')))
end Go.Proofs.YtgahllbgipdchaaGreatDoor.Wk
namespace Go.Proofs.YtgahllbgipdchaaGreatDoor.Eng
open Go Go.RowKit Tree
variable {W w : World}
def frzW (W w : World) (D : Nat -> Prop) : World := { w with heap := Array.ofFn (n := max W.heap.size w.heap.size) fun b => by classical exact if D b then (w.heap[b.1]?).getD (.map #[] 0) else (W.heap[b.1]?).getD (.map #[] 0) }
theorem KG' {D : Nat -> Prop} {b : Nat} (hb : b < max W.heap.size w.heap.size) : (frzW W w D).heap[b]? = some (by classical exact if D b then (w.heap[b]?).getD (.map #[] 0) else (W.heap[b]?).getD (.map #[] 0)) := by
 simp only [frzW, Array.getElem?_ofFn, hb, dif_pos]
theorem O8' {D : Nat -> Prop} {a : Addr} (hD : D a.block) (hlt : a.block < w.heap.size) : (frzW W w D).cell? a = w.cell? a := by
 have h := KG' (W := W) (w := w) (D := D) (b := a.block) ω; rw [if_pos hD, Array.getElem?_eq_getElem hlt] at h; simp only [World.cell?, h, Array.getElem?_eq_getElem hlt, Option.getD_some]
theorem PM' {D : Nat -> Prop} {a : Addr} (hD : ¬ D a.block) : (frzW W w D).cell? a = W.cell? a := by
 by_cases hb : a.block < max W.heap.size w.heap.size
 ·have h := KG' (W := W) (w := w) (D := D) (b := a.block) hb; rw [if_neg hD] at h; simp only [World.cell?, h]
  cases hW : W.heap[a.block]? with
  | none => simp
  | some o => simp
 ·have h1 : (frzW W w D).heap[a.block]? = none := by
   apply Array.getElem?_eq_none; simp only [frzW, Array.size_ofFn]; omega
  have h2 : W.heap[a.block]? = none := Array.getElem?_eq_none ω; simp only [World.cell?, h1, h2]
def frzF (F : HP) (w : World) (Dk : Nat -> Prop) (hk : ∀ b, Dk b -> b < w.heap.size) : HP where
 on D w' := ∃ D0, F.on D0 w' /\ (∀ b, D b ↔ D0 b \/ Dk b) /\ (∀ b, Dk b -> ¬ D0 b) /\ ∀ b, Dk b -> w'.heap[b]? = w.heap[b]?
 far {D w1 w2} hf := fun ⟨D0, h1, h2, h3, h4⟩ => ⟨D0, F.far (fun b hb => hf b ((h2 b).2 (.inl hb))) h1, h2, h3, fun b hb => (hf b ((h2 b).2 (.inr hb))).trans (h4 b hb)⟩
 lt {D w1} := fun ⟨D0, h1, h2, h3, h4⟩ b hb => by
  rcases (h2 b).1 hb with hb | hb
  ·exact F.lt h1 b hb
  ·have := h4 b hb; rw [Array.getElem?_eq_getElem (hk b hb)] at this; exact (Array.getElem?_eq_some_iff.1 this).1
theorem WG' {P : Program} {f : FuncId} {A : List AV} {H1 H1' : LH} {v : AV} {PR : Mem -> Prop} (k : Nat) (hk : 1000 <= k /\ k < 1100) (hk1 : getO H1 k = none) (hk1' : getO H1' k = none) (hl : AD' 1100 H1 = true) (hl' : AD' 1100 H1' = true)
  (hA : AV.cls (fun n => Nat.blt n 1000 || (getO H1 n).isSome) A) (hH : ∀ x ∈ H1, x.2.cl (fun n => Nat.blt n 1000 || (getO H1 n).isSome))
  (hm : ∀ C C' : Mem, (∀ a v, C a = some v -> C' a = some v) -> PR C -> PR C')
  (h : ∀ W' : World, (∀ a v, W.cell? a = some v -> W'.cell? a = some v) -> PR W'.cell? -> Tri P W' f A H1 v H1') : Tri P W f A (H1 ++ [(k, .any (frz PR))]) v (H1' ++ [(k, .any (frz PR))]) := by
 have hlk : AD' 1100 [(k, AO.any (frz PR))] = true := by simp only [AD', List.all_cons, List.all_nil, Bool.and_true, Nat.blt_eq]; exact hk.2
 have e1 : ∀ (G : LH) (i : Nat), i ≠ k -> getO (G ++ [(k, AO.any (frz PR))]) i = getO G i := fun G i hi => by
  rw [BV']
  cases getO G i with
  | some o => rfl
  | none => simp only [getO, if_neg hi]
 have e2 : ∀ (G : LH), getO G k = none -> getO (G ++ [(k, AO.any (frz PR))]) k = some (.any (frz PR)) := fun G hG => by
  rw [BV', hG]; simp [getO]
 intro W0 F N w vargs hF hNB r ha; have hfA : ∀ i, (AQ' (H1 ++ [(k, .any (frz PR))])).find i = getO (H1 ++ [(k, .any (frz PR))]) i := AK' (DA' (C7' hl hlk)); have hfA' : ∀ i, (AQ' (H1' ++ [(k, .any (frz PR))])).find i = getO (H1' ++ [(k, .any (frz PR))]) i := AK' (DA' (C7' hl' hlk)); have hf1 : ∀ i, (AQ' H1).find i = getO H1 i := AK' (DA' hl); have hf1' : ∀ i, (AQ' H1').find i = getO H1' i := AK' (DA' hl'); obtain ⟨D0, D, h1, h2, h3⟩ := r.sat; obtain ⟨⟨hP, hlt⟩, hdis⟩ := h2 k _ (by rw [hfA, e2 H1 hk1])
 have hW : ∀ a v, W.cell? a = some v -> (frzW W w (D k)).cell? a = some v := fun a v hv => by
  by_cases hD : D k a.block
  ·rw [O8' hD (hlt _ hD)]; exact hF D0 w h1 a v hv
  ·rw [PM' hD]; exact hv
 have hPW : PR (frzW W w (D k)).cell? := hm _ _ (fun a v hv => by
  obtain ⟨q1, q2⟩ := EW' hv
  rw [O8' q1 (hlt _ q1)]; exact q2) hP
 have hOld : AF' (frzW W w (D k)) (frzF F w (D k) hlt) := fun D1 w1 ⟨D2, q1, q2, q3, q4⟩ a v hv => by
  by_cases hD : D k a.block
  ·rw [O8' hD (hlt _ hD)] at hv; rw [<- hv]; exact PS' (q4 _ hD)
  ·rw [PM' hD] at hv; exact hF D2 w1 q1 a v hv
 have hne : ∀ i o, getO H1 i = some o -> i ≠ k := fun i o hi e => by rw [e, hk1] at hi; cases hi
 have r1 : Rep W0 N (frzF F w (D k) hlt) (AQ' H1) w := ⟨r.os, r.tape, r.output, fun b => D0 b \/ D k b, D, ⟨D0, h1, fun b => Iff.rfl, hdis, fun b _ => rfl⟩, fun i o hi => by
   rw [hf1] at hi; obtain ⟨q1, q2⟩ := h2 i o (by rw [hfA, e1 H1 i (hne i o hi)]; exact hi)
   exact ⟨q1, fun b hb hb' => hb'.elim (q2 b hb) (h3 i k o _ (by rw [hfA, e1 H1 i (hne i o hi)]; exact hi) (by rw [hfA, e2 H1 hk1]) (hne i o hi) b hb)⟩, fun i j o o' hi hj hij => by
   rw [hf1] at hi hj
   exact h3 i j o o' (by rw [hfA, e1 H1 i (hne i o hi)]; exact hi) (by rw [hfA, e1 H1 j (hne j o' hj)]; exact hj) hij⟩
 obtain ⟨N1, g1, g2, g3, g4⟩ := GM' (N := N) hl (fun _ _ => rfl) r1 ha hA hH; refine (h (frzW W w (D k)) hW hPW W0 (frzF F w (D k) hlt) N1 w vargs hOld g2 g3 g4).mono ?_; rintro e w' ⟨y, rfl, N2, p1, p2, p3, p4⟩
 refine ⟨y, rfl, N2, fun i hi => (p1 i hi).trans (g1 i hi), fun i hi hn => p2 i hi ?_, ?_, p4⟩
 ·by_cases hik : i = k
  ·rw [hik]; exact hk1'
  ·rw [e1 H1' i hik] at hn; exact hn
 ·obtain ⟨B0, B, ⟨C0, q1, q2, q3, q4⟩, k2, k3⟩ := p3.sat
  have hne' : ∀ i o, getO H1' i = some o -> i ≠ k := fun i o hi e => by rw [e, hk1'] at hi; cases hi
  have key : ∀ i o, i ≠ k -> getO (H1' ++ [(k, AO.any (frz PR))]) i = some o -> (AQ' H1').find i = some o := fun i o hik hi => by
   rw [hf1']; rw [e1 H1' i hik] at hi; exact hi
  refine ⟨p3.os, p3.tape, p3.output, C0, fun i b => if i = k then D k b else B i b, q1, fun i o hi => ?_, fun i j o o' hi hj hij b hbi hbj => ?_⟩
  ·rw [hfA'] at hi
   by_cases hik : i = k
   ·subst hik; rw [e2 H1' hk1'] at hi; cases hi; simp only [if_true]
    refine ⟨⟨?_, fun b hb => ?_⟩, q3⟩
    ·rw [MD' (w := w) q4]; exact hP
    ·have := q4 b hb; rw [Array.getElem?_eq_getElem (hlt b hb)] at this; exact (Array.getElem?_eq_some_iff.1 this).1
   ·simp only [if_neg hik]; obtain ⟨q5, q6⟩ := k2 i o (key i o hik hi)
    exact ⟨q5, fun b hb hb' => q6 b hb ((q2 b).2 (.inl hb'))⟩
  ·rw [hfA'] at hi hj
   by_cases hik : i = k
   ·have hjk : j ≠ k := fun e => hij (hik.trans e.symm)
    simp only [if_pos hik] at hbi; simp only [if_neg hjk] at hbj; exact (k2 j o' (key j o' hjk hj)).2 b hbj ((q2 b).2 (.inr hbi))
   ·simp only [if_neg hik] at hbi
    by_cases hjk : j = k
    ·simp only [if_pos hjk] at hbj; exact (k2 i o (key i o hik hi)).2 b hbi ((q2 b).2 (.inr hbj))
    ·simp only [if_neg hjk] at hbj; exact k3 i j o o' (key i o hik hi) (key j o' hjk hj) hij b hbi hbj
end Go.Proofs.YtgahllbgipdchaaGreatDoor.Eng
namespace Go.Proofs.YtgahllbgipdchaaGreatDoor.Wk
open Go Go.RowKit Eng Kit Tree
abbrev fCr : Nat := 19
abbrev tFt : TypeId := 2 * 47
abbrev tAf : TypeId := 2 * 54
structure Dp where
 us : Int
 p : Nat
 q : Nat
 da : Bs
 sa : Bs
 V : List Value
 z : Nat
 ok : Option Addr
 nk : Nat
 ck : Nat
 tr : Int
def lfM (x : AV) : AO := .map [(sv nm1, x, 0)] 1
def h8 (at' : Nat) (a : Addr) (m c i : Nat) : List (FuncId × Nat × Nat × Hint) := [ht' fCr 7 0, (fCr, 8, 2, hv (.agg [sv nm1, iv (Int.ofNat at'), slV (some a) m c])), (fCr, 18, 0, hv (iv (Int.ofNat (i + 1))))]
def h9 : List (FuncId × Nat × Nat × Hint) := [hf' fCr 9 4, ht' fCr 9 10, hf' fCr 9 11, hf' fCr 9 12, (fCr, 13, 4, ho 1011 (lfM .any))]
structure KAt (W : World) (ok : Option Addr) (kp : List Bool) : Prop where
 le : kp.length <= big
 at' : ∀ i b, kp[i]? = some b -> ∃ ak, ok = some ak /\ W.cell? (ak.add (i * 1)) = some (.bool b)
structure Rn (W : World) (V : List Value) (z i : Nat) (at' : Nat) (a : Addr) (d b : Bs) (c : Nat) : Prop where
 hi : i < z
 zb : z < 1099511627776
 he : List.take 3 (List.drop (0 + i * 3) (vmap V)) = [sv nm1, iv (Int.ofNat at'), slV (some a) d.length c]
 hd : BAt W.cell? (some a) d
 hc : d.length <= c
 hb : b.length <= at'
 hT : at' + d.length <= 2199023255552
structure CrK (W : World) (ok : Option Addr) (kp : List Bool) (o : Nat) (xs : List Rs) (sa : Bs) : Prop where
 kp : KAt W ok kp
 pb : PB xs W.cell?
 pos : ∀ x ∈ xs, 0 < x.d.length
 sa : sa.length <= o
 sz : o + lenR xs <= 2199023255552
 zb : xs.length < 1099511627776
end Go.Proofs.YtgahllbgipdchaaGreatDoor.Wk
