/- Parts of the proof, merged. -/
import Derived.Test.YtnnojnlejlokhaaGreatDoorCat2
import Derived.Test.YtnnojnlejlokhaaGreatDoorEngClosed
import Derived.Test.YtnnojnlejlokhaaGreatDoorEngXCat
import Derived.Test.YtnnojnlejlokhaaGreatDoorEngOpen
import Derived.Test.YtnnojnlejlokhaaGreatDoorEngGood
import Derived.Lib.Strings
noncomputable section
set_option linter.unusedVariables false
set_option linter.unusedSimpArgs false
set_option maxRecDepth 100000
set_option linter.unusedSectionVars false
namespace Go.Proofs.YtnnojnlejlokhaaGreatDoor.Wk
open Go Go.RowKit Eng Kit Tree
structure Rs where
 d : Bs
 a : Option Addr
 c : Nat
def Rs.val (r : Rs) : Value := .slice r.a r.d.length r.c
structure At1 (C : Mem) (x : Rs) : Prop where
 at' : BAt C x.a x.d
 cap : x.d.length <= x.c
def PB (r : List Rs) (C : Mem) : Prop := ∀ x ∈ r, At1 C x
theorem PB.snoc {r : List Rs} {x : Rs} {C : Mem} (h : PB r C) (hx : At1 C x) : PB (r ++ [x]) C := fun y hy => by
 rcases List.mem_append.1 hy with hy | hy
 ·exact h y hy
 ·rw [List.mem_singleton.1 hy]; exact hx
theorem At1.mono {C C' : Mem} (h : ∀ a v, C a = some v -> C' a = some v) {x : Rs} (hx : At1 C x) : At1 C' x := ⟨hx.at'.mono h, hx.cap⟩
theorem PB.mono {C C' : Mem} (h : ∀ a v, C a = some v -> C' a = some v) {r : List Rs} (hr : PB r C) : PB r C' := fun x hx => (hr x hx).mono h
def rwV (r : List Rs) : List Value := r.map Rs.val
def rbL (r : List Rs) : LH := [(0, .cells (vmap (rwV r)) tRb), (1009, .any (frz (PB r)))]
def rbO (ds : List Bs) : AO := .own .nothing (exHP (fun r : List Rs => r.map (·.d) = ds) rbL)
theorem YR' {N : A9'} {k : Nat} {D : Nat -> Prop} {w : World} {l : Bs} {y : Value} (hb : l.length <= big) (hp : 0 < l.length) (ho : OR N k (rB l) D w) (h : VR N (sB k l.length) y) : ∃ a c, y = .slice (some a) l.length c /\ BAt (H8' D w) (some a) l /\ l.length <= c := by
 have h0c := h; obtain ⟨lo, x, c, h1, rfl, h3⟩ := NL' h
 have hcap : l.length <= c := by
  simp only [sB, VR] at h0c; obtain ⟨l', x', c', _, e2, _, _, _, e6⟩ := h0c; simp only [Value.slice.injEq] at e2; rw [e2.2.2]; exact e6
 rw [show rB l = .cells (vmap (l.map fun b => .int .u8 b.toNat)) (2 * 5) by rw [rB, CX']] at ho
 obtain ⟨lo', h1', h0, h2⟩ := KS' ho; rw [h1] at h1'; cases h1'
 refine ⟨_, _, rfl, ⟨hb, fun i b hi => ⟨_, rfl, ?_⟩⟩, hcap⟩
 rw [h3 hp, h0, Nat.mul_one]; have hq := h2 i (.int .u8 b.toNat) (by rw [List.getElem?_map, hi]; rfl)
 have e : ((Addr.mk lo.blk 0 none).add i) = Addr.mk lo.blk i none := by
  unfold Addr.add; split
  ·rename_i hi; subst hi; rfl
  ·show Addr.mk lo.blk (0 + i) none = _; rw [Nat.zero_add]
 rw [e]; exact hq
def oWx (r : List Rs) (d : Bs) : LH := [(1006, .cells (vmap (rwV r) ++ [sB 1007 d.length]) tRb), (1009, .any (frz (PB r))), (1007, rB d)]
def oW (r : List Rs) : LH := [(1006, .cells (vmap (rwV r)) tRb), (1009, .any (frz (PB r)))]
theorem R6' (r : List Rs) (x : Rs) : rwV (r ++ [x]) = rwV r ++ [x.val] := by rw [rwV, List.map_append]; rfl
theorem st_rb {W0 w : World} {F : HP} {N : A9'} {ys : List Value} {vs : List AV} {r : List Rs} {d : Bs} (hb : d.length <= big) (hp : 0 < d.length)
  (hs : St W0 F N (oWx r d) vs ys w) (hv : ∀ r', AV.cls (fun n => Nat.blt n 1000 || (getO (oW r') n).isSome) vs) : ∃ x : Rs, x.d = d /\ St W0 F N (oW (r ++ [x])) vs ys w := by
 obtain ⟨c, hc⟩ := YL' rfl hs 1006 1009 [1007] δ δ δ (a := vmap (rwV r)) (b := [sB 1007 d.length]) (e := tRb) rfl rfl (fun N1 D w h => h.lt)
  (fun c C => PB r C /\ ∃ x : Rs, x.d = d /\ c = [x.val] /\ At1 C x) (fun N1 D hD yb hy => by
   have hP : PB r (H8' (D 1009) w) := (hD 1009 _ rfl).1; obtain ⟨y, r0, q1, q2, rfl⟩ := hy; have q2 : r0 = [] := q2; subst q2; obtain ⟨a, cp, rfl, hB, hC⟩ := YR' hb hp (hD 1007 _ rfl) q1
   exact ⟨[.slice (some a) d.length cp], rfl, VRs.vmap _, hP.mono (GI' fun b hb => .inl hb), ⟨d, some a, cp⟩, rfl, rfl, ⟨hB.mono (GI' fun b hb => .inr ⟨1007, List.mem_cons_self, ⟨_, rfl⟩, hb⟩), hC⟩⟩)
 obtain ⟨⟨C0, _, x, hx, rfl, _⟩, hc⟩ := hc; refine ⟨x, hx, hc _ (PB (r ++ [x])) rfl ?_ rfl (fun C ⟨h1, x', h2, h3, h4⟩ => ?_) (fun n o h1 h2 h3 => ?_) (hv _) (A0' (C1' _ _) (A0' Ye A1'))⟩
 ·show some (AO.cells (vmap (rwV (r ++ [x]))) tRb) = _; rw [R6', LZ']
 ·have e : x' = x := by
   obtain ⟨d1, a1, c1⟩ := x; obtain ⟨d2, a2, c2⟩ := x'; simp only at hx h2; subst hx h2; simp only [Rs.val, List.cons.injEq, Value.slice.injEq, and_true, true_and] at h3; obtain ⟨rfl, rfl⟩ := h3; rfl
  rw [e] at h4; exact h1.snoc h4
 ·simp only [oW, getO, if_neg h1, if_neg h2] at h3; cases h3
theorem HT' {σ : Nat -> Nat} : ∀ (a b : List AV), AV.rens σ (a ++ b) = AV.rens σ a ++ AV.rens σ b
 | [], b => rfl
 | x :: a, b => by simp only [List.cons_append, AV.rens, HT' a b]
theorem Rk_ow {W0 w : World} {F : HP} {N : A9'} {O : AO} {P Q : Mem -> Prop} {vs : List AV} {ys : List Value} (h : St W0 F N [(1006, O), (1009, .any (frz P))] vs ys w) (hP : ∀ C, P C -> Q C) : St W0 F N [(1006, O), (1009, .any (frz Q))] vs ys w := by
 obtain ⟨N', g1, g2, r, hv⟩ := h; obtain ⟨D0, D, h1, h2, h3⟩ := r.sat
 have hf : ∀ (P : Mem -> Prop) i, (AK' [(1006, O), (1009, .any (frz P))]).find i = getO [(1006, O), (1009, .any (frz P))] i := fun P => AE' χ
 refine ⟨N', g1, fun j hj hg => g2 j hj (by simp only [getO] at hg ⊢; split at hg <;> simp_all), ⟨r.os, r.tape, r.output, D0, D, h1, fun i o hi => ?_, fun i j o o' hi hj hij => ?_⟩, hv⟩
 ·rw [hf] at hi; simp only [getO] at hi
  by_cases e0 : i = 1006
  ·rw [if_pos e0] at hi; exact h2 i o (by rw [hf]; simp only [getO, if_pos e0]; exact hi)
  ·rw [if_neg e0] at hi
   by_cases e1 : i = 1009
   ·rw [if_pos e1] at hi; cases hi; have := h2 i (.any (frz P)) (by rw [hf]; simp only [getO, if_neg e0, if_pos e1]); exact ⟨⟨hP _ this.1.1, this.1.2⟩, this.2⟩
   ·rw [if_neg e1] at hi; cases hi
 ·rw [hf] at hi hj
  have key : ∀ i o, getO [(1006, O), (1009, .any (frz Q))] i = some o -> ∃ o', getO [(1006, O), (1009, .any (frz P))] i = some o' := fun i o h => by
   simp only [getO] at h ⊢
   by_cases e0 : i = 1006
   ·rw [if_pos e0]; exact ⟨_, rfl⟩
   ·rw [if_neg e0] at h ⊢
    by_cases e1 : i = 1009
    ·rw [if_pos e1]; exact ⟨_, rfl⟩
    ·rw [if_neg e1] at h; cases h
  obtain ⟨p, hp⟩ := key i o hi; obtain ⟨q, hq⟩ := key j o' hj; exact h3 i j p q (by rw [hf]; exact hp) (by rw [hf]; exact hq) hij
def endR (r : List Rs) : Nat := (cat (r.map (·.d))).length
theorem I5' (r : List Rs) (x : Rs) : endR (r ++ [x]) = endR r + (8 + x.d.length) := by rw [endR, List.map_append, List.map_cons, List.map_nil, I7', List.length_append, BO']; rfl
def xR : List Rs -> AV
 | [] => nilS
 | x :: r => slW (r.length + 1)
def oR : List Rs -> AO
 | [] => dumZ
 | x :: r => .cells (vmap (rwV (x :: r))) tRb
theorem TD' {r : List Rs} (h : r ≠ []) : xR r = slW r.length /\ oR r = .cells (vmap (rwV r)) tRb := by
 cases r with
 | nil => exact absurd rfl h
 | cons x r => exact ⟨rfl, rfl⟩
theorem MM' {r : List Rs} (h : r ≠ []) : ∃ s, endR r = s + 1 := by
 cases r with
 | nil => exact absurd rfl h
 | cons x r => exact ⟨endR (x :: r) - 1, by
   have : 8 <= endR (x :: r) := by rw [endR, List.map_cons, DS', List.length_append, BO']; omega
   omega⟩
def subA (oa : Option Addr) (c e : Nat) : Option Addr := match e with
 | 0 => oa
 | s + 1 => if c = s + 1 then oa else Option.map (fun x => Addr.mk x.block (x.off + (s + 1) * 1) none) oa
theorem sub_at {C : Mem} {oa : Option Addr} {l : Bs} {c : Nat} (h : BAt C oa l) (hc : l.length <= c) (e : Nat) : BAt C (subA oa c e) (l.drop e) := by
 cases e with
 | zero => exact h
 | succ s =>
  unfold subA; simp only; split
  ·rename_i hcs; rw [List.drop_eq_nil_of_le ω]
   exact ⟨Nat.zero_le _, fun i b hb => by simp at hb⟩
  ·cases oa with
   | none =>
    have : l.drop (s + 1) = [] := by
     cases hl : l with
     | nil => rfl
     | cons x r =>
      obtain ⟨a, e, _⟩ := h.2 0 x (by rw [hl]; rfl); cases e
    rw [this]; exact ⟨Nat.zero_le _, fun i b hb => by simp at hb⟩
   | some a =>
    have := h.drop (s + 1)
    have e2 : a.add (s + 1) = Addr.mk a.block (a.off + (s + 1) * 1) none := by unfold Addr.add; rw [if_neg ω, Nat.mul_one]
    rw [e2] at this; exact this
structure WS (l : Bs) (r : List Rs) : Prop where
 le : endR r <= l.length
 wh : AP' l = r.map (·.d) ++ AP' (l.drop (endR r))
theorem WS.zero (l : Bs) : WS l [] := ⟨Nat.zero_le _, by rfl⟩
theorem WS.next {l : Bs} {r : List Rs} (h : WS l r) {d : Bs} (hu : unwB (l.drop (endR r)) = some d) (x : Rs) (hx : x.d = d) : WS l (r ++ [x]) := by
 have hl := JK' hu; rw [List.length_drop] at hl; have h1 := h.le; refine ⟨by rw [I5', hx]; omega, ?_⟩; rw [h.wh, H0' hu, List.map_append, List.map_cons, List.map_nil, hx, I5', hx, List.drop_drop, List.append_assoc]; rfl
theorem WS.done {l : Bs} {r : List Rs} (h : WS l r) (hu : unwB (l.drop (endR r)) = none) : r.map (·.d) = AP' l := by
 rw [h.wh, CR' hu, List.append_nil]
theorem gT' {W : World} {ob : Option Addr} {m k e : Nat} (h : Tri Θ W fUn [slV ob m k] [] (.tuple [nilS, iv 0, iv (Int.ofNat e)]) []) (F : HP) (hF : AH' W F) : C1OK Θ F fUn (cUnE ob m k e) :=
 AU' hF (fun _ => .tuple [nilS, iv 0, iv (Int.ofNat e)]) (fun _ => RO.ret _) (fun _ => rfl) (fun _ _ => h) fun _ => ⟨rfl, rfl, ⟨Ye, Ye⟩, A1', ⟨⟨Ye, Ye, Ye, Ye⟩, Ye⟩, A1'⟩
theorem gR' {W : World} {ob : Option Addr} {m k : Nat} (h : Tri Θ W fUn [slV ob m k] [] (.tuple [nilS, iv 8, iv 0]) []) (F : HP) (hF : AH' W F) : C1OK Θ F fUn (cUnZ ob m k) :=
 AU' hF (fun _ => .tuple [nilS, iv 8, iv 0]) (fun _ => RO.ret _) (fun _ => rfl) (fun _ _ => h) fun _ => ⟨rfl, rfl, ⟨Ye, Ye⟩, A1', ⟨⟨Ye, Ye, Ye, Ye⟩, Ye⟩, A1'⟩
theorem gS' {W : World} {ob : Option Addr} {m k p q : Nat} {d : Bs} (h : Tri Θ W fUn [slV ob m k] [] (.tuple [sB 1000 p, iv (Int.ofNat q), iv 0]) [(1000, rB d)]) (F : HP) (hF : AH' W F) : C1OK Θ F fUn (cUnS ob m k p q d) :=
 AU' hF (fun _ => .tuple [sB 1000 p, iv (Int.ofNat q), iv 0]) (fun _ => RO.ret _) (fun _ => rfl) (fun _ _ => h) fun _ => ⟨rfl, rfl, ⟨Ye, Ye⟩, A1', ⟨⟨rfl, Ye, Ye, Ye⟩, Ye⟩, A0' (AR' _ _) A1'⟩
theorem YB' {a b : Nat} (h : a + b < 9223372036854775808) : IntKind.i64.wrap (Int.ofNat a + Int.ofNat b) = Int.ofNat (a + b) := by
 rw [show (Int.ofNat a + Int.ofNat b : Int) = ((a + b : Nat) : Int) by simp]
 exact DJ' h
theorem a6' (W : World) (hN : LN W) (oa : Option Addr) (c : Nat) (l : Bs) (h : BAt W.cell? oa l) (hc : l.length <= c) (hsz : l.length <= 1099511627776) :
  CTri Θ W (.loop (A3' fWh 1)) (tms 0 26 (aWh oa l.length c (xR []) (endR []))) (oWh (oR []) (PB [])) (fun _ : {r : List Rs // r.map (·.d) = AP' l} => .ret) (fun q => tms 0 26 [(2, xR q.1), (3, iv (Int.ofNat (endR q.1)))]) (fun q => oWh (oR q.1) (PB q.1)) := by
 have hlb : l.length <= 140737488351232 := h.1
 refine gE' (W := W) (g := fWh) (b := A3' fWh 1) (σ := {r : List Rs // WS l r}) (ρ := {r : List Rs // r.map (·.d) = AP' l}) 26 (fun z => aWh oa l.length c (xR z.1) (endR z.1)) (fun z => oWh (oR z.1) (PB z.1)) (fun _ => .ret) (fun q => [(2, xR q.1), (3, iv (Int.ofNat (endR q.1)))]) (fun q => oWh (oR q.1) (PB q.1)) (fun _ h => by cases h) (fun z => l.length + 1 - endR z.1) kWh [0, 2, 3] (fun _ => rfl) ?_ ⟨[], WS.zero l⟩
 rintro ⟨r, hr⟩; simp only; have hle0 := hr.le; have hD := sub_at h hc (endR r)
 have hDc : (l.drop (endR r)).length <= c - endR r := by rw [List.length_drop]; omega
 have hDl : (l.drop (endR r)).length = l.length - endR r := List.length_drop
 cases hu : unwB (l.drop (endR r)) with
 | none =>
  obtain ⟨e, he, hT⟩ := aA' W hN _ _ _ hD hDc hu
  obtain ⟨eR, rfl⟩ : ∃ eR, e = eR + 1 := ⟨e - 1, by omega⟩
  have ene : (Int.ofNat (eR + 1) != Int.ofNat 0) = true := bne_iff_ne.2 fun q => by have := Int.ofNat.inj q; omega
  have hcon := fun F hF => gT' hT F hF
  have hdone := hr.done hu
  by_cases h0 : r = []
  ·subst h0; have ev : Value.slice oa l.length c = Value.slice (subA oa c 0) (l.drop 0).length (c - 0) := rfl
   refine ⟨[(fUn, cUnE (subA oa c 0) (l.drop 0).length (c - 0) (eR + 1))], hWh (subA oa c 0) (l.drop 0).length (c - 0) 0 true, [], _, rfl, Goes.refl _ _, fun F hF => BJ' (hcon F hF), fun _ _ => noL, fun F => ?_⟩
   refine Yj (WS' W oa l.length c (l.drop 0).length (c - 0) eR (subA oa c 0) dumZ (PB []) F) ⟨⟨?_, rfl, [(2, xR []), (3, iv (Int.ofNat (endR [])))], oWh (oR []) (PB []), [(1006, 1006), (1009, 1009)], rfl, ⟨χ, by kernel_rfl, ⟨Ya, Ya, Ye⟩, ⟨_, rfl, Yc⟩, ⟨_, rfl, Yc⟩, Ye⟩, fun W0 F N ys w hst => .inr ⟨⟨[], hdone⟩, rfl, hst⟩⟩⟩
   exact Cc6'
  ·obtain ⟨s, hs⟩ := MM' h0; obtain ⟨x1, x2⟩ := TD' h0; rw [hs] at hcon hle0 hDl; have hle : s + 1 <= l.length := hle0
   have ev : Value.slice (if c = s + 1 then oa else Option.map (fun x => Addr.mk x.block (x.off + (s + 1) * 1) none) oa) (l.length - (s + 1)) (c - (s + 1)) = Value.slice (subA oa c (s + 1)) (l.drop (s + 1)).length (c - (s + 1)) := by rw [List.length_drop]; rfl
   rw [x1, x2, hs]
   refine ⟨[(fUn, cUnE (subA oa c (s + 1)) (l.drop (s + 1)).length (c - (s + 1)) (eR + 1))], hWh (subA oa c (s + 1)) (l.drop (s + 1)).length (c - (s + 1)) 0 true, [], _, rfl, Goes.refl _ _, fun F hF => BJ' (hcon F hF), fun _ _ => noL, fun F => ?_⟩
   refine Yj (WR' W oa l.length c (l.drop (s + 1)).length (c - (s + 1)) eR s r.length (subA oa c (s + 1)) (rwV r) (PB r) F) ⟨⟨?_, rfl, [(2, slW r.length), (3, iv (Int.ofNat (s + 1)))], oWh (.cells (vmap (rwV r)) tRb) (PB r), [(1006, 1006), (1009, 1009)], rfl, ⟨χ, by kernel_rfl, ⟨Ya, Ya, Ye⟩, ⟨_, rfl, OW.of_eq (by simp only [AO.ren, AS'])⟩, ⟨_, rfl, Yc⟩, Ye⟩, fun W0 F N ys w hst => .inr ⟨⟨r, hdone⟩, rfl, by rw [x1, x2, hs]; exact hst⟩⟩⟩
   exact Cc6'
 | some d =>
  have hul := JK' hu; rw [hDl] at hul
  have hdb : d.length <= big := by show _ <= 140737488351232; omega
  have hz8 : (r.length + 1) * 8 <= endR r + 8 := by
   have : ∀ q : List Rs, q.length * 8 <= endR q := by
    intro q
    induction q with
    | nil => exact Nat.zero_le _
    | cons y q ih =>
     rw [endR] at ih; rw [endR, List.map_cons, DS', List.length_append, BO', List.length_cons]; omega
   have := this r; omega
  have hfin : ∀ (v : AV) W0 F N ys w (x : Rs), x.d = d -> St W0 F N (oW (r ++ [x])) (tms 0 26 (aWh oa l.length c (slW (r.length + 1)) (endR r + (8 + d.length)))) ys w -> ∃ s' : {r : List Rs // WS l r}, l.length + 1 - endR s'.1 < l.length + 1 - endR r /\ St W0 F N (oWh (oR s'.1) (PB s'.1)) (tms 0 26 (aWh oa l.length c (xR s'.1) (endR s'.1))) ys w := by
   intro v W0 F N ys w x hx hst
   refine ⟨⟨r ++ [x], hr.next hu x hx⟩, by simp only; rw [I5', hx]; omega, ?_⟩
   obtain ⟨y1, y2⟩ := TD' (r := r ++ [x]) (by simp); simp only; rw [y1, y2, I5', hx, List.length_append]; exact hst
  have hcl : ∀ n e r', AV.cls (fun i => Nat.blt i 1000 || (getO (oW r') i).isSome) (tms 0 26 (aWh oa l.length c (slW n) e)) := fun n e r' => R1' (A0' Ye (A0' rfl (A0' Ye A1')))
  by_cases hd : d = []
  ·subst hd; have hT := un_nil W hN _ _ _ hD hDc hu
   have hcon := fun F hF => gR' hT F hF
   have hadd : ∀ W0 F N ys w, St W0 F N [(1006, .cells (vmap (rwV r) ++ [nilS]) tRb), (1009, .any (frz (PB r)))] (tms 0 26 (aWh oa l.length c (slW (r.length + 1)) (endR r + 8))) ys w -> St W0 F N (oW (r ++ [⟨[], none, 0⟩])) (tms 0 26 (aWh oa l.length c (slW (r.length + 1)) (endR r + (8 + ([] : Bs).length)))) ys w := fun W0 F N ys w hst => by
    have e : vmap (rwV (r ++ [⟨[], none, 0⟩])) = vmap (rwV r) ++ [nilS] := by rw [R6', LZ']; rfl
    unfold oW; rw [e]
    exact Rk_ow hst fun C h => h.snoc ⟨⟨Nat.zero_le _, fun i b hb => by simp at hb⟩, Yd⟩
   by_cases h0 : r = []
   ·subst h0; have ev : Value.slice oa l.length c = Value.slice (subA oa c 0) (l.drop 0).length (c - 0) := rfl; have ew := YB' (a := 0) (b := 8) δ
    refine ⟨[(fUn, cUnZ (subA oa c 0) (l.drop 0).length (c - 0))], hWh (subA oa c 0) (l.drop 0).length (c - 0) (0 + 8) false, [], _, rfl, Goes.refl _ _, fun F hF => BJ' (hcon F hF), fun _ _ => noL, fun F => ?_⟩
    refine Yj (WP' W oa l.length c (l.drop 0).length (c - 0) (0 + 8) (subA oa c 0) dumZ (PB []) F) ⟨⟨?_, rfl, aWh oa l.length c (slW 1) (0 + 8), [(1006, .cells [nilS] tRb), (1009, .any (frz (PB [])))], [(1006, 1101), (1009, 1009)], rfl, ⟨χ, by kernel_rfl, ⟨Ya, Ya, Ya, Ye⟩, ⟨_, rfl, Yc⟩, ⟨_, rfl, Yc⟩, Ye⟩, fun W0 F N ys w hst => .inl ⟨rfl, hfin nilS W0 F N ys w ⟨[], none, 0⟩ rfl (hadd W0 F N ys w hst)⟩⟩⟩
    exact Cc7'
   ·obtain ⟨s, hs⟩ := MM' h0; obtain ⟨x1, x2⟩ := TD' h0; have hfin' := hfin; have hadd' := hadd; rw [hs] at hcon hle0 hDl hul hz8 hfin' hadd'; have hle : s + 1 <= l.length := hle0
    have ev : Value.slice (if c = s + 1 then oa else Option.map (fun x => Addr.mk x.block (x.off + (s + 1) * 1) none) oa) (l.length - (s + 1)) (c - (s + 1)) = Value.slice (subA oa c (s + 1)) (l.drop (s + 1)).length (c - (s + 1)) := by rw [List.length_drop]; rfl
    have ew := YB' (a := s + 1) (b := 8) ω; have k1 : (0 + r.length * 1).ble (vmap (rwV r)).length = true := AL' (by rw [CW', rwV, List.length_map]; omega); have k2 : ((r.length + 1) * 24).ble 140737488355328 = true := AL' ω; have k3 : (r.length + 1).ble 9223372036854775807 = true := AL' ω
    have ktk : List.take (r.length * 1) (List.drop 0 (vmap (rwV r))) = vmap (rwV r) := by rw [List.drop_zero, List.take_of_length_le (by rw [CW', rwV, List.length_map]; omega)]
    have k4 : (List.take (r.length * 1) (List.drop 0 (vmap (rwV r)))).length.beq (r.length * 1) = true := by rw [ktk, CW', rwV, List.length_map, Nat.mul_one]; exact Nat.beq_refl _
    rw [x1, x2, hs]
    refine ⟨[(fUn, cUnZ (subA oa c (s + 1)) (l.drop (s + 1)).length (c - (s + 1)))], hWh (subA oa c (s + 1)) (l.drop (s + 1)).length (c - (s + 1)) (s + 1 + 8) false, [], _, rfl, Goes.refl _ _, fun F hF => BJ' (hcon F hF), fun _ _ => noL, fun F => ?_⟩
    refine Yj (WN' W oa l.length c (l.drop (s + 1)).length (c - (s + 1)) (s + 1 + 8) s r.length (subA oa c (s + 1)) (rwV r) (PB r) F) ⟨⟨?_, rfl, aWh oa l.length c (slW (r.length + 1)) (s + 1 + 8), [(1006, .cells (vmap (rwV r) ++ [nilS]) tRb), (1009, .any (frz (PB r)))], [(1006, 1101), (1009, 1009)], rfl, ⟨χ, by kernel_rfl, ⟨Ya, Ya, Ya, Ye⟩, ⟨_, rfl, by rw [ktk]; exact OW.of_eq (by simp only [AO.ren, HT', AS']; rfl)⟩, ⟨_, rfl, Yc⟩, Ye⟩, fun W0 F N ys w hst => .inl ⟨rfl, hfin' nilS W0 F N ys w ⟨[], none, 0⟩ rfl (hadd' W0 F N ys w hst)⟩⟩⟩
    exact Cc8'
  ·have hp : 0 < d.length := List.length_pos_iff.2 hd; have hT := a9' W hN _ _ _ d hD hDc hu hd
   have hcon := fun F hF => gS' hT F hF
   have hadd : ∀ W0 F N ys w, St W0 F N (oWx r d) (tms 0 26 (aWh oa l.length c (slW (r.length + 1)) (endR r + (8 + d.length)))) ys w -> ∃ x : Rs, x.d = d /\ St W0 F N (oW (r ++ [x])) (tms 0 26 (aWh oa l.length c (slW (r.length + 1)) (endR r + (8 + d.length)))) ys w := fun W0 F N ys w hst => st_rb hdb hp hst (hcl _ _)
   by_cases h0 : r = []
   ·subst h0; have ev : Value.slice oa l.length c = Value.slice (subA oa c 0) (l.drop 0).length (c - 0) := rfl; have ew := YB' (a := 0) (b := 8 + d.length) (by show 0 + (8 + d.length) < _; simp only [endR] at hul; omega)
    refine ⟨[(fUn, cUnS (subA oa c 0) (l.drop 0).length (c - 0) d.length (8 + d.length) d)], hWh (subA oa c 0) (l.drop 0).length (c - 0) (0 + (8 + d.length)) false, [], _, rfl, Goes.refl _ _, fun F hF => BJ' (hcon F hF), fun _ _ => noL, fun F => ?_⟩
    refine Yj (WQ' W oa l.length c (l.drop 0).length (c - 0) d.length (8 + d.length) (0 + (8 + d.length)) (subA oa c 0) d dumZ (PB []) F) ⟨⟨?_, rfl, aWh oa l.length c (slW 1) (0 + (8 + d.length)), oWx [] d, [(1006, 1102), (1009, 1009), (1007, 1100)], rfl, ⟨χ, by kernel_rfl, ⟨Ya, Ya, Ya, Ye⟩, ⟨_, rfl, Yc⟩, ⟨_, rfl, Yc⟩, ⟨_, rfl, AQ' (A5' _ _) rfl⟩, Ye⟩, fun W0 F N ys w hst => .inl ⟨rfl, by
     obtain ⟨x, q1, q2⟩ := hadd W0 F N ys w hst
     exact hfin nilS W0 F N ys w x q1 q2⟩⟩⟩
    exact Cc7'
   ·obtain ⟨s, hs⟩ := MM' h0; obtain ⟨x1, x2⟩ := TD' h0; have hfin' := hfin; have hadd' := hadd; rw [hs] at hcon hle0 hDl hul hz8 hfin' hadd'; have hle : s + 1 <= l.length := hle0
    have ev : Value.slice (if c = s + 1 then oa else Option.map (fun x => Addr.mk x.block (x.off + (s + 1) * 1) none) oa) (l.length - (s + 1)) (c - (s + 1)) = Value.slice (subA oa c (s + 1)) (l.drop (s + 1)).length (c - (s + 1)) := by rw [List.length_drop]; rfl
    have ew := YB' (a := s + 1) (b := 8 + d.length) ω; have k1 : (0 + r.length * 1).ble (vmap (rwV r)).length = true := AL' (by rw [CW', rwV, List.length_map]; omega); have k2 : ((r.length + 1) * 24).ble 140737488355328 = true := AL' ω; have k3 : (r.length + 1).ble 9223372036854775807 = true := AL' ω
    have ktk : List.take (r.length * 1) (List.drop 0 (vmap (rwV r))) = vmap (rwV r) := by rw [List.drop_zero, List.take_of_length_le (by rw [CW', rwV, List.length_map]; omega)]
    have k4 : (List.take (r.length * 1) (List.drop 0 (vmap (rwV r)))).length.beq (r.length * 1) = true := by rw [ktk, CW', rwV, List.length_map, Nat.mul_one]; exact Nat.beq_refl _
    rw [x1, x2, hs]
    refine ⟨[(fUn, cUnS (subA oa c (s + 1)) (l.drop (s + 1)).length (c - (s + 1)) d.length (8 + d.length) d)], hWh (subA oa c (s + 1)) (l.drop (s + 1)).length (c - (s + 1)) (s + 1 + (8 + d.length)) false, [], _, rfl, Goes.refl _ _, fun F hF => BJ' (hcon F hF), fun _ _ => noL, fun F => ?_⟩
    refine Yj (WO' W oa l.length c (l.drop (s + 1)).length (c - (s + 1)) d.length (8 + d.length) (s + 1 + (8 + d.length)) s r.length (subA oa c (s + 1)) d (rwV r) (PB r) F) ⟨⟨?_, rfl, aWh oa l.length c (slW (r.length + 1)) (s + 1 + (8 + d.length)), oWx r d, [(1006, 1102), (1009, 1009), (1007, 1100)], rfl, ⟨χ, by kernel_rfl, ⟨Ya, Ya, Ya, Ye⟩, ⟨_, rfl, by rw [ktk]; exact OW.of_eq (by simp only [AO.ren, HT', AS']; rfl)⟩, ⟨_, rfl, Yc⟩, ⟨_, rfl, AQ' (A5' _ _) rfl⟩, Ye⟩, fun W0 F N ys w hst => .inl ⟨rfl, by
     obtain ⟨x, q1, q2⟩ := hadd' W0 F N ys w hst
     exact hfin' nilS W0 F N ys w x q1 q2⟩⟩⟩
    exact Cc8'
theorem wh_pre {vs : List AV} : Goes vs [] vs (oWh dumZ (PB [])) := by
 refine Goes.trans (ED' (k := 1006) (H' := [(1006, dumZ)]) (fun C => trivial) rfl rfl rfl δ rfl (fun n hn => ?_)) (ED' (k := 1009) (P := PB []) (fun C x hx => by cases hx) rfl rfl rfl δ rfl (fun n hn => ?_))
 ·simp only [getO, if_neg hn]
 ·simp only [oWh, getO]
  by_cases e : n = 1006
  ·simp only [if_pos e]
  ·simp only [if_neg e, if_neg hn]
theorem a5' (W : World) (hN : LN W) (oa : Option Addr) (c : Nat) (l : Bs) (h : BAt W.cell? oa l) (hc : l.length <= c) (hsz : l.length <= 1099511627776) {x : AV} {e : Nat} {H' : LH} (hx : ∀ r : List Rs, r.map (·.d) = AP' l -> Goes (tms 0 26 [(2, xR r), (3, iv (Int.ofNat (endR r)))]) (oWh (oR r) (PB r)) (tms 0 26 [(2, x), (3, iv (Int.ofNat e))]) H') :
  LTri Θ W (A3' fWh 1) (tms 0 26 (aWh oa l.length c nilS 0)) [] .ret (tms 0 26 [(2, x), (3, iv (Int.ofNat e))]) H' := by
 have hl := CTri.pre (a6' W hN oa c l h hc hsz) (wh_pre (vs := tms 0 26 (aWh oa l.length c nilS 0)))
 have hl2 : CTri Θ W (.loop (A3' fWh 1)) (tms 0 26 (aWh oa l.length c nilS 0)) [] (fun _ : Unit => .ret) (fun _ => tms 0 26 [(2, x), (3, iv (Int.ofNat e))]) (fun _ => H') := hl.post fun q => ⟨(), rfl, hx q.1 q.2⟩
 exact fun W0 F N w a Q hF hN r ha hK => hl2 W0 F N w a Q hF hN r ha fun _ => hK
theorem a4' (W : World) (hN : LN W) (oa : Option Addr) (c : Nat) (l : Bs) (h : BAt W.cell? oa l) (hc : l.length <= c) (hsz : l.length <= 1099511627776) (hw : AP' l ≠ []) : Tri Θ W fWh [slV oa l.length c] [] (.tuple [.slice 1000 0 (AP' l).length 1 (.lo (AP' l).length), iv (Int.ofNat (cat (AP' l)).length)]) [(1000, rbO (AP' l))] := by
 have hl := a5' W hN oa c l h hc hsz (x := slW (AP' l).length) (e := (cat (AP' l)).length) (H' := [(1006, rbO (AP' l))]) fun r hr => by
  have hne : r ≠ [] := fun e => hw (by rw [<- hr, e]; rfl)
  obtain ⟨x1, x2⟩ := TD' hne
  have hlen : (AP' l).length = r.length := by rw [<- hr, List.length_map]
  have he : endR r = (cat (AP' l)).length := by rw [endR, hr]
  rw [x1, x2, hlen, he]
  refine Goes.trans ?_ (Goes.shutNew (R := fun r : List Rs => r.map (·.d) = AP' l) (L := rbL) (m := .nothing) 1006 δ r hr χ χ ⟨_, _, rfl, by kernel_rfl⟩ (R1' (A0' rfl (A0' Ye A1'))))
  have e2 : renL 1006 (rbL r) = oWh (.cells (vmap (rwV r)) tRb) (PB r) := by
   show [(1006, AO.ren _ (.cells (vmap (rwV r)) tRb)), (1009, AO.any (frz (PB r)))] = _; simp only [AO.ren, AS']; rfl
  rw [e2]; exact Goes.refl _ _
 have hL : ∀ F, AH' W F -> L1OK Θ F (A3' fWh 1) (lWh oa l.length c (cat (AP' l)).length (slW (AP' l).length) [(1006, rbO (AP' l))]) := fun F hF =>
  BV' hF (fun _ => RO.ret _) (fun _ _ => hl) fun _ => by
   simp only [RT.pick]; exact BD' rfl rfl (A0' Ye (A0' Ye (A0' Ye A1'))) A1' (A0' rfl (A0' Ye A1')) (A0' Ye A1')
 refine AF' (con := []) (hints := BA') (lc := [(fWh, 1, A3' fWh 1, lWh oa l.length c (cat (AP' l)).length (slW (AP' l).length) [(1006, rbO (AP' l))])]) [1100, 1101, 1102] rfl (fun F _ => noC) (fun F hF => C2' (hL F hF)) fun F => ?_
 refine Yj (bF' W oa l.length c (cat (AP' l)).length (AP' l).length (rbO (AP' l)) F) ⟨⟨?_, (AO' (vs' := [.tuple [.slice 1000 0 (AP' l).length 1 (.lo (AP' l).length), iv (Int.ofNat (cat (AP' l)).length)]]) (H' := [(1000, rbO (AP' l))]) [(1000, 1100)] χ χ (Yb) ⟨⟨_, rfl, Yc⟩, Ye⟩).fits rfl⟩⟩
 simp only [Cnd.holds, Nat.blt_eq, true_and, and_true]; and_intros; all_goals first | (with_reducible exact Ye) | (with_reducible exact rfl) | exact Kc14'
abbrev CK' : Nat := 7
def nibV : List Value := [.int .u32 0, .int .u32 274646895, .int .u32 549293790, .int .u32 820201905, .int .u32 1098587580, .int .u32 1361435347, .int .u32 1640403810, .int .u32 1905808397, .int .u32 2197175160, .int .u32 2460548119, .int .u32 2722870694, .int .u32 2987750089, .int .u32 3280807620, .int .u32 3553878443, .int .u32 3811616794, .int .u32 4084100981]
def cfg : Cfg := { strs := [(38, 64, 9), (38, 69, 9)], ints := [], same := [], clone := [fMc], laid := [(0, nibV)] }
theorem cfg_ok : CfgOk Θ cfg where
 strs := fun x hx => by
  simp only [cfg, List.mem_cons, List.not_mem_nil, or_false] at hx
  rcases hx with rfl | rfl
  ·exact ⟨χ, DG'⟩
  ·exact ⟨χ, K1'⟩
 ints := fun x hx => by cases hx
 same := fun x hx => by cases hx
 clone := fun x hx => by
  obtain rfl := List.mem_singleton.1 hx; exact RT'
theorem nib_eq (j : Nat) (v : Value) (h : nibV[j]? = some v) : j < 16 /\ v = .int .u32 (Int.ofNat (nb j)) := by
 rcases j with _|_|_|_|_|_|_|_|_|_|_|_|_|_|_|_|j
 all_goals first | (cases h; exact ⟨δ, rfl⟩) | (simp [nibV] at h)
theorem Y4' {w : World} (hN : LN w) : SA' cfg w := by
 intro x hx j v hj; obtain rfl := List.mem_singleton.1 hx; obtain ⟨h1, rfl⟩ := nib_eq j v hj; have := hN.tab j h1; rw [Nat.mul_one] at this
 have e : (Addr.mk 0 0 none).add j = Addr.mk 0 j none := by
  unfold Addr.add; split
  ·rename_i h; subst h; rfl
  ·show Addr.mk _ (0 + j) none = _; rw [Nat.zero_add]
 rwa [e] at this
def outO : Out AV -> Option (Option Value × Cnd)
 | .ok v _ _ _ c => some (v.val?, c)
 | .bad _ => none
theorem OV' {P : Program} {K : Cfg} (hK : CfgOk P K) (hm : P.follows .mixedOrders = true) {fuel : Nat} {f : FuncId} {args : List Value} {x : Value} {c : Cnd} (hc : c.holds) (he : ∀ w, outO ((D3' P (envK P K w) fuel f (vmap args)).run true .nil 0 []) = some (some x, c)) {w : World} (hL : SA' K w) :
  Calls P f args.toArray w fun e w' => e = .returned x /\ Below w.heap.size w w' := by
 have he2 := he w
 cases hr : (D3' P (envK P K w) fuel f (vmap args)).run true .nil 0 [] with
 | bad why => rw [hr] at he2; cases he2
 | ok v h' n' lg c2 =>
  rw [hr] at he2; simp only [outO, Option.some.injEq, Prod.mk.injEq] at he2; obtain ⟨he3, he4⟩ := he2; rw [<- he4] at hc; refine (DB' (UZ' hK hL) hm (RO' hK w) (OT' P K w) hr hc (M8' w) (VRs.vmap args) (fun _ _ _ => rfl)).mono ?_; rintro e w' ⟨y, N', rfl, r', hv, _⟩; have : y = x := DM' he3 hv; subst this; exact ⟨rfl, r'.old_below⟩
def fO' : Cnd := (((((((((Cnd.p (0 = 0)).a Cnd.t).a Cnd.t).a Cnd.t).a Cnd.t).a Cnd.t).a Cnd.t).a Cnd.t).a Cnd.t).a Cnd.t
theorem PY' : fO'.holds := by simp [fO', Cnd.holds]
set_option maxRecDepth 1000000 in
theorem SE' (w : World) : outO ((D3' Θ (envK Θ cfg w) 100000 CK' (vmap [])).run true .nil 0 []) = some (some (.bool true), fO') := χ
theorem NK' {w : World} (hN : LN w) : Calls Θ CK' (List.toArray []) w fun e w' => e = .returned (.bool true) /\ Below w.heap.size w w' :=
 OV' (args := []) cfg_ok χ (fuel := 100000) PY' SE' (w := w) (Y4' hN)
theorem PN' {W : World} (hN : LN W) {f : FuncId} {args : List Value} {x : Value} (h : ∀ w, LN w -> Calls Θ f args.toArray w fun e w' => e = .returned x /\ Below w.heap.size w w') : Tri Θ W f (vmap args) [] (.v x) [] :=
 NH' fun W0 F N w vargs hF hNB r ha => by
  have : vargs = args.toArray := by
   have := VRs.of_vmap ha; rw [<- this]
  subst this; have r0 := r; obtain ⟨_, _, _, D0, _, hD0, _, _⟩ := r0; exact h w (hN.mono (I6' (hF D0 w hD0)))
def CV' : List AV -> Option (AP AV) := mkC (fun _ => .ret ()) (fun _ => True) (fun _ i => i) (fun _ => []) (fun _ => []) (fun _ => .leaf .ret [.v (.bool true)] [])
theorem SX' {W : World} (hN : LN W) (F : HP) (hF : AH' W F) : C1OK Θ F CK' CV' :=
 AU' hF (fun _ => .v (.bool true)) (fun _ => RO.ret _) (fun _ => rfl) (fun _ _ => PN' hN (args := []) fun w h => NK' h) fun _ => ⟨rfl, rfl, Ye, A1', ⟨Ye, Ye⟩, A1'⟩
abbrev nmL : Δ := ⟨⟨[99, 97, 116, 97, 108, 111, 103]⟩⟩
abbrev nm1 : Δ := ⟨⟨[99, 97, 116, 97, 108, 111, 103, 46, 49]⟩⟩
abbrev nmD : Δ := ⟨⟨[99, 97, 116, 97, 108, 111, 103, 46]⟩⟩
abbrev nmO : Δ := ⟨⟨[49]⟩⟩
abbrev nmP : Δ := ⟨⟨[46]⟩⟩
abbrev fGn : Nat := 31
abbrev fCt : Nat := 50
abbrev fIt : Nat := 75
abbrev fCx : Nat := 71
abbrev fAt : Nat := 72
def cfgE : Cfg := { strs := [], ints := [], same := [], clone := [], laid := [] }
theorem IS' : CfgOk Θ cfgE := ⟨fun x hx => (by cases hx), fun x hx => (by cases hx), fun x hx => (by cases hx), fun x hx => (by cases hx)⟩
theorem Q5' (W : World) : Tri Θ W fGn [sv nm1] [] (bv true) [] :=
 DE' (args := [.string nm1]) fun w => CM' (args := [.string nm1]) IS' χ (fuel := 1000) (fun w => χ) (w := w) (fun x hx => by cases hx)
theorem g1' (W : World) : Tri Θ W fGn [sv nmL] [] (bv true) [] :=
 DE' (args := [.string nmL]) fun w => CM' (args := [.string nmL]) IS' χ (fuel := 1000) (fun w => χ) (w := w) (fun x hx => by cases hx)
theorem ZL' (W : World) : Tri Θ W fCt [sv nmL, sv nmP] [] (bv false) [] :=
 DE' (args := [.string nmL, .string nmP]) fun w => CM' (args := [.string nmL, .string nmP]) IS' χ (fuel := 1000) (fun w => χ) (w := w) (fun x hx => by cases hx)
theorem OD' (W : World) : Tri Θ W fIt [iv 1] [] (sv nmO) [] :=
 DE' (args := [.int .i64 1]) fun w => CM' (args := [.int .i64 1]) IS' χ (fuel := 1000) (fun w => χ) (w := w) (fun x hx => by cases hx)
theorem cx_tri (W : World) : Tri Θ W fCx [sv nm1, sv nmD] [] (.v (.tuple #[.string nmO, .bool true])) [] :=
 DE' (args := [.string nm1, .string nmD]) fun w => CM' (args := [.string nm1, .string nmD]) IS' χ (fuel := 1000) (fun w => χ) (w := w) (fun x hx => by cases hx)
theorem at_tri (W : World) : Tri Θ W fAt [sv nmO] [] (.v (.tuple #[.int .i64 1, .nilIface])) [] :=
 DE' (args := [.string nmO]) fun w => CM' (args := [.string nmO]) IS' χ (fuel := 1000) (fun w => χ) (w := w) (fun x hx => by cases hx)
def cK (A : List AV) (v : AV) : List AV -> Option (AP AV) := mkC (fun _ => .ret ()) (fun _ => True) (fun _ k => k) (fun _ => A) (fun _ => []) (fun _ => .leaf .ret [v] [])
theorem KV' {f : FuncId} {A : List AV} {v : AV} (h : Tri Θ default f A [] v []) (hA : ∀ K, AV.cls K A) (hv : ∀ K, AV.cl K v) (F : HP) : C1OK Θ F f (cK A v) :=
 AU' (W := default) AZ' (fun _ => v) (fun _ => RO.ret _) (fun _ => rfl) (fun _ _ => h) fun _ => ⟨rfl, rfl, hA _, A1', ⟨hv _, Ye⟩, A1'⟩
noncomputable section
abbrev fAp : Nat := 28
abbrev fPt : Nat := 43
abbrev fFl : Nat := 56
abbrev fDa : Nat := 67
abbrev tDk : TypeId := 2 * 80
abbrev tFi : TypeId := 2 * 87
abbrev tPw : TypeId := 2 * 90
abbrev tLg : TypeId := 2 * 108
def pV (m : Nat) : AV := .slice 1005 0 m 3 (.lo m)
def dkC (PV : AV) (us : Int) : AO := .cells [.map 1001, PV, iv 1099511627776, iv us] tDk
def fiC (p q : Nat) : AO := .cells [sB 1003 p, sB 1004 q] tFi
def mpO (st ck : Nat) : AO := .map [(sv nm1, .ptr 1002 0, st)] ck
def lgC (sz : Int) : AO := .cells [.ptr 0 0, sv nmL, iv 1, iv sz] tLg
def uD (PV : AV) (us : Int) (st ck p q : Nat) (da sa : Bs) (O : AO) (PR : Mem -> Prop) : LH := [(0, dkC PV us), (1001, mpO st ck), (1002, fiC p q), (1003, rB da), (1004, rB sa), (1005, O), (1006, .any (frz PR))]
def kD : List Nat := [0, 1001, 1002, 1003, 1004, 1005, 1006, 2, 4, 1100, 1101, 1102, 1103, 1104, 1105, 1106, 1107, 1108]
def mSt : Nat := 0
def mCk : Nat := 1
def cWo (m n : Nat) (r w : Bs) : List AV -> Option (AP AV) := mkC (fun args => match args with | .slice i _ _ _ _ :: _ => .ret i | _ => .fail "wrap") (fun _ => True) nmW (fun _ => [sB 0 m]) (fun _ => [(0, rB r)]) (fun _ => .leaf .ret [.tuple [sB 1000 n, iv 0]] [(0, rB r), (1000, rB w)])
def hAp (us' sz' : Int) : BI' := A6' [(fFl, 1, 4, hv (sv nmD)), (fFl, 1, 7, hv (sv nm1)), hf' fPt 2 1, hf' fDa 1 2, hf' fDa 3 8, hf' fDa 3 21, hf' fDa 6 1, (fDa, 11, 6, hv (iv us')), ht' fAp 2 1, (fAp, 3, 5, hv (iv sz'))]
def XZ' (m n : Nat) (r w : Bs) : GP' := [(fWp, cWo m n r w), (fIt, cK [iv 1] (sv nmO)), (fGn, cK [sv nm1] (bv true)), (fCl, cClB n w)]
abbrev k28' (q0 : Int) (q1 : Nat) (q2 : Int) : Cnd := (f' (Wk (z' (IntKind.i64.wrap (q0 + ↑q1))) (z' q2)))
abbrev k29' (q0 : Int) : Cnd := (ee' (z' q0))
abbrev k30' : Cnd := (ee' (i' 1))
theorem XB' (W : World) (us us' sz sz' : Int) (st ck p q n m : Nat) (da sa r w : Bs) (O : AO) (PR : Mem -> Prop) (F : HP) : wRun (XZ' m n r w) (hAp us' sz') [] W fAp [.ptr 2 0, sB 4 m] (uD nilS us st ck p q da sa O PR ++ [(2, lgC sz), (4, rB r)]) kD F = VT.leaf (i' 0) [some (AO.cells [AV.map 1001,AV.slice 1103 0 1 3 (Cp.lo 1),i' 1099511627776,z' us'] 160),some (AO.map [(s' nm1,AV.ptr 1002 0,st)] ck),some (AO.cells [AV.slice 1104 0 (p + n) 1 (Cp.lo (p + n)),AV.slice 1004 0 q 1 (Cp.lo q)] 174),none,some (AO.cells (rowV encB sa) 10),some O,some (AO.any (frz PR)),some (AO.cells [AV.ptr 0 0,s' nmL,i' 1,z' sz'] 216),some (AO.cells (AV.rens (sgN (nmW 4) [1000] 1100) (rowV encB r)) 10),some (AO.cells (AV.rens (sgN (fun k => match k with | 0 => sgN (nmW 4) (newL [(0,rB r),(1000,rB w)]) 1100 1000 | k => k) [1000] 1101) (rowV encB w)) 10),some (AO.cells (AV.rens (sgN (fun k => match k with | 0 => sgN (nmW 4) (newL [(0,rB r),(1000,rB w)]) 1100 1000 | k => k) [1000] 1101) (rowV encB w)) 10),some (AO.cells [s' nm1,z' ↑p,AV.slice 1101 0 n 1 (Cp.lo n)] 180),some (AO.cells [s' nm1,z' ↑p,AV.slice 1101 0 n 1 (Cp.lo n)] 180),some (AO.cells (List.take (p * 1) (List.drop 0 (rowV encB da)) ++ List.take (n * 1) (List.drop 0 (AV.rens (sgN (fun k => match k with | 0 => sgN (nmW 4) (newL [(0,rB r),(1000,rB w)]) 1100 1000 | k => k) [1000] 1101) (rowV encB w)))) 10),none,none,none,none] 1105 (k30'.a ((((Cnd.p True).a ((vw' [AV.slice 4 0 m 1 (Cp.lo m)]).a (f' (OW (AO.cells (rowV encB r) 10) (AO.cells (AV.rens (nmW 4) (rowV encB r)) 10))))).a ((f' (Wk (b' false) g')).a ((fe' true).a (((ee' (s' nmL)).a ((f' (Wk (s' (nmL ++ ByteArray.mk (Array.mk [46]))) (s' nmD))).a (((Cnd.p True).a (f' (VW [i' 1] [i' 1]))).a ((f' (Wk (s' (nmD ++ nmO)) (s' nm1))).a t')))).a ((((Cnd.p True).a (f' (VW [s' nm1] [s' nm1]))).a ((f' (Wk (b' false) g')).a ((ee' (i' 1099511627776)).a ((ee' (z' us)).a ((wb' (decide (Int.ofNat 1099511627776 < us)) g').a ((ee' (i' 1099511627776)).a ((ee' (z' us)).a ((wb' (decide (↑n > IntKind.i64.wrap (Int.ofNat 1099511627776 - us))) g').a ((fe' true).a ((f' (findKey Tryz.prog (envW [(66,cWo m n r w),(75,cK [i' 1] (s' nmO)),(31,cK [s' nm1] (b' true)),(32,cClB n w)] (hAp us' sz') [] W F) 9 (s' nm1) [(s' nm1,AV.ptr 1002 0,st)] 0 = AP.ret (some (0,AV.ptr 1002 0)))).a ((f' (Wk (b' false) g')).a ((fe' true).a ((fe' true).a (((Cnd.p True).a ((vw' [AV.slice 1100 0 n 1 (Cp.lo n)]).a (f' (OW (AO.cells (AV.rens (sgN (nmW 4) [1000] 1100) (rowV encB w)) 10) (AO.cells (AV.rens (fun k => match k with | 0 => sgN (nmW 4) (newL [(0,rB r),(1000,rB w)]) 1100 1000 | k => k) (rowV encB w)) 10))))).a ((tt'.a (tt'.a (tt'.a (tt'.a (ee' true))))).a ((fe' true).a ((fe' true).a (((p' (n.ble n = true)).a ((p' ((List.take (n * 1) (List.drop 0 (AV.rens (sgN (fun k => match k with | 0 => sgN (nmW 4) (newL [(0,rB r),(1000,rB w)]) 1100 1000 | k => k) [1000] 1101) (rowV encB w)))).length.beq (n * 1) = true)).a ((p' ((List.take (n * 1) (List.drop 0 (AV.rens (sgN (fun k => match k with | 0 => sgN (nmW 4) (newL [(0,rB r),(1000,rB w)]) 1100 1000 | k => k) [1000] 1101) (rowV encB w)))).all AV.one = true)).a ((p' (Nat.blt 0 n = true)).a ((p' ((0 + p * 1).ble (rowV encB da).length = true)).a ((p' (((p + n) * 1).ble 140737488355328 = true)).a ((p' ((p + n).ble 9223372036854775807 = true)).a (f' ((List.take (p * 1) (List.drop 0 (rowV encB da))).length.beq (p * 1) = true))))))))).a ((fe' true).a ((ee' (z' us)).a ((f' (Wk (z' (IntKind.i64.wrap (us + ↑n))) (z' us'))).a ((fe' true).a t')))))))))))))))))))))).a t'))))).a (k22'.a ((k29' sz).a ((k28' sz n sz').a (k7'.a k1')))))) := χ
theorem XC' (W : World) (us us' sz sz' : Int) (st ck p q n m z : Nat) (da sa r w : Bs) (V : List Value) (PR : Mem -> Prop) (F : HP) : wRun (XZ' m n r w) (hAp us' sz') [] W fAp [.ptr 2 0, sB 4 m] (uD (pV z) us st ck p q da sa (.cells (vmap V) tPw) PR ++ [(2, lgC sz), (4, rB r)]) kD F = VT.leaf (i' 0) [some (AO.cells [AV.map 1001,AV.slice 1103 0 (z + 1) 3 (Cp.lo (z + 1)),i' 1099511627776,z' us'] 160),some (AO.map [(s' nm1,AV.ptr 1002 0,st)] ck),some (AO.cells [AV.slice 1104 0 (p + n) 1 (Cp.lo (p + n)),AV.slice 1004 0 q 1 (Cp.lo q)] 174),none,some (AO.cells (rowV encB sa) 10),none,some (AO.any (frz PR)),some (AO.cells [AV.ptr 0 0,s' nmL,i' 1,z' sz'] 216),some (AO.cells (AV.rens (sgN (nmW 4) [1000] 1100) (rowV encB r)) 10),some (AO.cells (AV.rens (sgN (fun k => match k with | 0 => sgN (nmW 4) (newL [(0,rB r),(1000,rB w)]) 1100 1000 | k => k) [1000] 1101) (rowV encB w)) 10),some (AO.cells (AV.rens (sgN (fun k => match k with | 0 => sgN (nmW 4) (newL [(0,rB r),(1000,rB w)]) 1100 1000 | k => k) [1000] 1101) (rowV encB w)) 10),some (AO.cells [s' nm1,z' ↑p,AV.slice 1101 0 n 1 (Cp.lo n)] 180),some (AO.cells (List.take (z * 3) (List.drop 0 (vmap V)) ++ [s' nm1,z' ↑p,AV.slice 1101 0 n 1 (Cp.lo n)]) 180),some (AO.cells (List.take (p * 1) (List.drop 0 (rowV encB da)) ++ List.take (n * 1) (List.drop 0 (AV.rens (sgN (fun k => match k with | 0 => sgN (nmW 4) (newL [(0,rB r),(1000,rB w)]) 1100 1000 | k => k) [1000] 1101) (rowV encB w)))) 10),none,none,none,none] 1105 (k30'.a ((((Cnd.p True).a ((vw' [AV.slice 4 0 m 1 (Cp.lo m)]).a (f' (OW (AO.cells (rowV encB r) 10) (AO.cells (AV.rens (nmW 4) (rowV encB r)) 10))))).a ((f' (Wk (b' false) g')).a ((fe' true).a (((ee' (s' nmL)).a ((f' (Wk (s' (nmL ++ ByteArray.mk (Array.mk [46]))) (s' nmD))).a (((Cnd.p True).a (f' (VW [i' 1] [i' 1]))).a ((f' (Wk (s' (nmD ++ nmO)) (s' nm1))).a t')))).a ((((Cnd.p True).a (f' (VW [s' nm1] [s' nm1]))).a ((f' (Wk (b' false) g')).a ((ee' (i' 1099511627776)).a ((ee' (z' us)).a ((wb' (decide (Int.ofNat 1099511627776 < us)) g').a ((ee' (i' 1099511627776)).a ((ee' (z' us)).a ((wb' (decide (↑n > IntKind.i64.wrap (Int.ofNat 1099511627776 - us))) g').a ((fe' true).a ((f' (findKey Tryz.prog (envW [(66,cWo m n r w),(75,cK [i' 1] (s' nmO)),(31,cK [s' nm1] (b' true)),(32,cClB n w)] (hAp us' sz') [] W F) 9 (s' nm1) [(s' nm1,AV.ptr 1002 0,st)] 0 = AP.ret (some (0,AV.ptr 1002 0)))).a ((f' (Wk (b' false) g')).a ((fe' true).a ((fe' true).a (((Cnd.p True).a ((vw' [AV.slice 1100 0 n 1 (Cp.lo n)]).a (f' (OW (AO.cells (AV.rens (sgN (nmW 4) [1000] 1100) (rowV encB w)) 10) (AO.cells (AV.rens (fun k => match k with | 0 => sgN (nmW 4) (newL [(0,rB r),(1000,rB w)]) 1100 1000 | k => k) (rowV encB w)) 10))))).a ((tt'.a (tt'.a (tt'.a (tt'.a ((p' ((0 + z * 3).ble (vmap V).length = true)).a ((p' (((z + 1) * 48).ble 140737488355328 = true)).a ((p' ((z + 1).ble 9223372036854775807 = true)).a (f' ((List.take (z * 3) (List.drop 0 (vmap V))).length.beq (z * 3) = true))))))))).a ((fe' true).a ((fe' true).a (((p' (n.ble n = true)).a ((p' ((List.take (n * 1) (List.drop 0 (AV.rens (sgN (fun k => match k with | 0 => sgN (nmW 4) (newL [(0,rB r),(1000,rB w)]) 1100 1000 | k => k) [1000] 1101) (rowV encB w)))).length.beq (n * 1) = true)).a ((p' ((List.take (n * 1) (List.drop 0 (AV.rens (sgN (fun k => match k with | 0 => sgN (nmW 4) (newL [(0,rB r),(1000,rB w)]) 1100 1000 | k => k) [1000] 1101) (rowV encB w)))).all AV.one = true)).a ((p' (Nat.blt 0 n = true)).a ((p' ((0 + p * 1).ble (rowV encB da).length = true)).a ((p' (((p + n) * 1).ble 140737488355328 = true)).a ((p' ((p + n).ble 9223372036854775807 = true)).a (f' ((List.take (p * 1) (List.drop 0 (rowV encB da))).length.beq (p * 1) = true))))))))).a ((fe' true).a ((ee' (z' us)).a ((f' (Wk (z' (IntKind.i64.wrap (us + ↑n))) (z' us'))).a ((fe' true).a t')))))))))))))))))))))).a t'))))).a (k22'.a ((k29' sz).a ((k28' sz n sz').a (k7'.a k1')))))) := χ
end
def lenR (xs : List Rs) : Nat := (xs.map (·.d.length)).sum
def pwV : Nat -> List Rs -> List Value
 | _, [] => []
 | o, x :: xs => .string nm1 :: .int .i64 (Int.ofNat o) :: x.val :: pwV (o + x.d.length) xs
theorem U3' : ∀ (xs : List Rs) (o : Nat), (pwV o xs).length = xs.length * 3
 | [], o => rfl
 | x :: xs, o => by simp only [pwV, List.length_cons, U3' xs]; omega
theorem G5' (x : Rs) (xs : List Rs) : lenR (x :: xs) = x.d.length + lenR xs := by simp [lenR]
theorem R9' : ∀ (xs : List Rs) (o : Nat) (x : Rs), pwV o (xs ++ [x]) = pwV o xs ++ [.string nm1, .int .i64 (Int.ofNat (o + lenR xs)), x.val]
 | [], o, x => by simp [pwV, lenR]
 | y :: xs, o, x => by simp only [List.cons_append, pwV, R9' xs, G5', Nat.add_assoc]
theorem KT' (a b : List Bs) : cat (a ++ b) = cat a ++ cat b := by simp [cat]
theorem MG' : ∀ (xs : List Rs) (rs : List Bs), xs.map (·.d) = rs.map BF' -> lenR xs = (cat rs).length
 | [], [], _ => rfl
 | x :: xs, r :: rs, h => by
  simp only [List.map_cons, List.cons.injEq] at h; rw [G5', MG' xs rs h.2, DS', List.length_append, h.1]
 | [], r :: rs, h => by cases h
 | x :: xs, [], h => by cases h
def xP : List Rs -> AV
 | [] => nilS
 | x :: r => pV (r.length + 1)
def oP (o : Nat) : List Rs -> AO
 | [] => dumZ
 | x :: r => .cells (vmap (pwV o (x :: r))) tPw
def dkL (S rs : List Bs) (xs : List Rs) : LH := uD (xP xs) (Int.ofNat (cat (S ++ rs)).length) mSt mCk (cat (S ++ rs)).length (cat S).length (cat (S ++ rs)) (cat S) (oP (cat S).length xs) (PB xs)
def dO (S rs : List Bs) : AO := .own .nothing (exHP (fun xs : List Rs => xs.map (·.d) = rs.map BF') (dkL S rs))
theorem V5' (H0 : LH) (hd : (([0, 1001, 1002, 1003, 1004, 1005, 1006] : List Nat).all fun i => (getO H0 i).isNone) = true) (hl : AA' 1100 H0 = true) (S rs : List Bs) (xs : List Rs) : Eng.ownL H0 (dkL S rs xs) = true := by
 simp only [List.all_cons, List.all_nil, Bool.and_true, Bool.and_eq_true] at hd; simp only [Eng.ownL, dkL, uD, List.all_cons, List.all_nil, hd, hl, Bool.and_true]; rfl
theorem ZJ' (S rs : List Bs) (xs : List Rs) : ∀ x ∈ dkL S rs xs, x.2.cl (kH (dkL S rs xs)) := by
 cases xs with
 | nil => exact A0' ⟨rfl, Ye, Ye, Ye, Ye⟩ (A0' ⟨Ye, rfl, Ye⟩ (A0' ⟨rfl, rfl, Ye⟩ (A0' (AR' _ _) (A0' (AR' _ _) (A0' Ye (A0' Ye A1'))))))
 | cons x xs => exact A0' ⟨rfl, rfl, Ye, Ye, Ye⟩ (A0' ⟨Ye, rfl, Ye⟩ (A0' ⟨rfl, rfl, Ye⟩ (A0' (AR' _ _) (A0' (AR' _ _) (A0' (C1' _ _) (A0' Ye A1'))))))
theorem RP' (S rs : List Bs) (xs : List Rs) : ∃ cs e, getO (dkL S rs xs) 0 = some (.cells cs e) /\ e % 2 = 0 := ⟨_, _, rfl, by kernel_rfl⟩
theorem UA' {W : World} {f : FuncId} {A : List AV} {S rs : List Bs} {H0 H' : LH} {v : AV} (hd : (([0, 1001, 1002, 1003, 1004, 1005, 1006] : List Nat).all fun i => (getO H0 i).isNone) = true) (hl : AA' 1100 H0 = true)
  (h : ∀ xs : List Rs, xs.map (·.d) = rs.map BF' -> Tri Θ W f A (dkL S rs xs ++ H0) v H') : Tri Θ W f A ((0, dO S rs) :: H0) v H' :=
 Tri.open (R := fun xs : List Rs => xs.map (·.d) = rs.map BF') (L := dkL S rs) (H0 := H0) (fun xs => V5' H0 hd hl S rs xs) (fun xs => ZJ' S rs xs) (fun xs => by obtain ⟨cs, e, h, _⟩ := RP' S rs xs; exact ⟨_, h⟩) h
theorem YN' {S rs : List Bs} {H0 : LH} {vs : List AV} (xs : List Rs) (hx : xs.map (·.d) = rs.map BF') (hd : (([0, 1001, 1002, 1003, 1004, 1005, 1006] : List Nat).all fun i => (getO H0 i).isNone) = true) (hl : AA' 1100 H0 = true)
  (hv : AV.cls (fun i => Nat.blt i 1000 || (getO H0 i).isSome) vs) (ho : ∀ x ∈ H0, x.2.cl (fun i => Nat.blt i 1000 || (getO H0 i).isSome)) : Goes vs (dkL S rs xs ++ H0) vs ((0, dO S rs) :: H0) :=
 Goes.shut (R := fun xs : List Rs => xs.map (·.d) = rs.map BF') (L := dkL S rs) xs hx (V5' H0 hd hl S rs xs) (RP' S rs xs) hv ho
theorem TH' (w : Bs) (σ : Nat -> Nat) : (List.take (w.length * 1) (List.drop 0 (AV.rens σ (rowV encB w)))).all AV.one = true := by
 rw [A5', List.drop_zero, List.take_of_length_le (by rw [BS', Nat.mul_one]; exact Yd)]; simp [rowV, vmap, AV.one, encB]
 exact fun x _ => rfl
structure ApK (us us' sz sz' : Int) (da w : Bs) (n p : Nat) : Prop where
 hn : n = w.length
 hp : p = da.length
 f1 : decide (Int.ofNat 1099511627776 < us) = false
 f2 : decide ((n : Int) > IntKind.i64.wrap (Int.ofNat 1099511627776 - us)) = false
 us : IntKind.i64.wrap (us + (n : Int)) = us'
 sz : IntKind.i64.wrap (sz + (n : Int)) = sz'
 n1 : 0 < n
 n2 : (0 + p * 1).ble (rowV encB da).length = true
 n3 : ((p + n) * 1).ble 140737488355328 = true
 n4 : (p + n).ble 9223372036854775807 = true
 d1 : (List.take (p * 1) (List.drop 0 (rowV encB da))).length.beq (p * 1) = true
theorem a1' (xs : List Rs) (x : Rs) : xP (xs ++ [x]) = pV (xs.length + 1) := by
 cases xs with
 | nil => rfl
 | cons y xs => show pV ((xs ++ [x]).length + 1) = _; rw [List.length_append]; rfl
theorem dF' (o : Nat) (xs : List Rs) (x : Rs) : oP o (xs ++ [x]) = .cells (vmap (pwV o (xs ++ [x]))) tPw := by
 cases xs with
 | nil => rfl
 | cons y xs => rfl
theorem fZ' {S rs : List Bs} {r : Bs} {H0 : LH} {vs : List AV} (xs : List Rs) (hx : xs.map (·.d) = rs.map BF') (hr : r.length <= most) (hd : (([0, 1001, 1002, 1003, 1004, 1005, 1006, 1007] : List Nat).all fun i => (getO H0 i).isNone) = true) (hl : AA' 1100 H0 = true)
  (hv : ∀ K, AV.cls K vs) (ho : ∀ K : Nat -> Bool, K 0 = true -> ∀ x ∈ H0, x.2.cl K) :
  Goes vs (uD (pV (xs.length + 1)) (Int.ofNat (cat (S ++ (rs ++ [r]))).length) mSt mCk (cat (S ++ (rs ++ [r]))).length (cat S).length (cat (S ++ (rs ++ [r]))) (cat S) (.cells (vmap (pwV (cat S).length xs) ++ [sv nm1, iv (Int.ofNat ((cat S).length + lenR xs)), sB 1007 (BF' r).length]) tPw) (PB xs) ++ ((1007, rB (BF' r)) :: H0)) vs ((0, dO S (rs ++ [r])) :: H0) := by
 intro W0 F N ys w hst; have hd' := hd; simp only [List.all_cons, List.all_nil, Bool.and_true, Bool.and_eq_true, Option.isNone_iff_eq_none] at hd'; obtain ⟨n0, n1, n2, n3, n4, n5, n6, n7⟩ := hd'; have hlen : (BF' r).length = 8 + r.length := BO' r; have hr' : r.length <= 1048576 := hr
 have hb : (BF' r).length <= big := by rw [hlen]; show _ <= 140737488351232; omega
 have hp : 0 < (BF' r).length := ω
 obtain ⟨c, hc⟩ := YL' (by
   simp only [AA', uD, List.cons_append, List.nil_append, List.all_cons] at hl ⊢
   rw [hl]; rfl) hst 1005 1006 [1007] δ δ δ (a := vmap (pwV (cat S).length xs)) (b := [sv nm1, iv (Int.ofNat ((cat S).length + lenR xs)), sB 1007 (BF' r).length]) (e := tPw) rfl rfl (fun N1 D w h => h.lt)
  (fun c C => PB xs C /\ ∃ x : Rs, x.d = BF' r /\ c = [.string nm1, .int .i64 (Int.ofNat ((cat S).length + lenR xs)), x.val] /\ At1 C x) (fun N1 D hD yb hy => by
   have hP : PB xs (H8' (D 1006) w) := (hD 1006 _ rfl).1; obtain ⟨y1, r1, a1, q1, rfl⟩ := hy; obtain ⟨y2, r2, a2, q2, rfl⟩ := q1; obtain ⟨y, r0, a3, q3, rfl⟩ := q2; have q3 : r0 = [] := q3; subst q3; have a1 : y1 = .string nm1 := VR_v.1 a1; have a2 : y2 = .int .i64 (Int.ofNat ((cat S).length + lenR xs)) := VR_v.1 a2; subst a1 a2; obtain ⟨a, cp, rfl, hB, hC⟩ := YR' hb hp (hD 1007 _ rfl) a3
   exact ⟨[.string nm1, .int .i64 (Int.ofNat ((cat S).length + lenR xs)), .slice (some a) (BF' r).length cp], rfl, VRs.vmap _, hP.mono (GI' fun b hb => .inl hb), ⟨BF' r, some a, cp⟩, rfl, rfl, ⟨hB.mono (GI' fun b hb => .inr ⟨1007, List.mem_cons_self, ⟨_, rfl⟩, hb⟩), hC⟩⟩)
 obtain ⟨⟨C0, _, x, hxd, rfl, _⟩, hc⟩ := hc
 have hfin := hc (dkL S (rs ++ [r]) (xs ++ [x]) ++ H0) (PB (xs ++ [x])) (by
   simp only [AA', dkL, uD, List.cons_append, List.nil_append, List.all_cons] at hl ⊢
   rw [hl]; rfl) (by
   show some (oP (cat S).length (xs ++ [x])) = _
   rw [dF', R9', LZ']) rfl (fun C ⟨h1, x', h2, h3, h4⟩ => by
   have e : x' = x := by
    obtain ⟨d1, a1, c1⟩ := x; obtain ⟨d2, a2, c2⟩ := x'; simp only at hxd h2; subst hxd h2; simp only [Rs.val, List.cons.injEq, Value.slice.injEq, and_true, true_and] at h3; obtain ⟨rfl, rfl⟩ := h3; rfl
   rw [e] at h4
   exact h1.snoc h4) (fun n o h1 h2 h3 => by
   simp only [dkL, uD, List.cons_append, List.nil_append, getO, if_neg h1, if_neg h2, a1'] at h3 ⊢
   by_cases e7 : n = 1007
   ·subst e7
    simp only [show ¬ (1007 = 0) by decide, show ¬ (1007 = 1001) by decide, show ¬ (1007 = 1002) by decide, show ¬ (1007 = 1003) by decide, show ¬ (1007 = 1004) by decide, if_false] at h3
    rw [n7] at h3; cases h3
   ·exact ⟨by simp [e7], by simp only [if_neg e7]; exact h3⟩) (hv _) (by
   have hK0 : (fun n => Nat.blt n 1000 || (getO (dkL S (rs ++ [r]) (xs ++ [x]) ++ H0) n).isSome) 0 = true := rfl
   intro y hy
   rcases List.mem_append.1 hy with hy | hy
   ·have hk : ∀ i, kH (dkL S (rs ++ [r]) (xs ++ [x])) i = true -> (fun n => Nat.blt n 1000 || (getO (dkL S (rs ++ [r]) (xs ++ [x]) ++ H0) n).isSome) i = true := fun i hi => by
     simp only [kH] at hi; obtain ⟨o, ho⟩ := Option.isSome_iff_exists.1 hi; simp only [BE', ho, Option.isSome_some, Bool.or_true]
    exact AO.cl_mono hk (ZJ' S (rs ++ [r]) (xs ++ [x]) y hy)
   ·exact ho _ hK0 y hy)
 exact YN' (xs ++ [x]) (by rw [List.map_append, List.map_append, hx]; simp only [List.map_cons, List.map_nil, hxd]) (by
   simp only [List.all_cons, List.all_nil, Bool.and_true, Bool.and_eq_true, n0, n1, n2, n3, n4, n5, n6]; simp) hl (hv _) (ho _ rfl) W0 F N ys w hfin
theorem cWo_ok {W : World} (hN : LN W) (r : Bs) (hr : r.length <= most) (hp : 0 < r.length) (F : HP) (hF : AH' W F) : C1OK Θ F fWp (cWo r.length (BF' r).length r (BF' r)) := by
 have hb : r.length <= big := by have : r.length <= 1048576 := hr; show _ <= 140737488351232; omega
 exact AU' hF (fun _ => .tuple [sB 1000 (BF' r).length, iv 0]) (fun args => by split <;> first | exact RO.ret _ | exact RO.fail _) (fun _ => rfl) (fun _ _ => TZ' W hN (pre := []) (H' := [(1000, rB (BF' r))]) hb hp rfl (fun i o h => by
  simp only [getO] at h ⊢
  by_cases e : i = 1000
  ·subst e; exact ⟨δ, by simp⟩
  ·rw [if_neg e] at h; cases h) fun W' hN' oa c h _ => QY' W' hN' oa c r h hr) fun _ => ⟨rfl, rfl, ⟨rfl, Ye⟩, A0' (AR' _ _) A1', ⟨⟨rfl, Ye, Ye⟩, Ye⟩, A0' (AR' _ _) (A0' (AR' _ _) A1')⟩
theorem ApK_mk {da w : Bs} (h0 : 0 < w.length) (hz : da.length + w.length <= 1099511627776) : ApK (Int.ofNat da.length) (Int.ofNat (da.length + w.length)) (Int.ofNat da.length) (Int.ofNat (da.length + w.length)) da w w.length da.length := by
 have hrl : (rowV encB da).length = da.length := BS' da; refine ⟨rfl, rfl, decide_eq_false (by simp only [Z0]; omega), decide_eq_false ?_, ?_, ?_, ?_, AL' (by rw [hrl]; omega), AL' ω, AL' ω, ?_⟩
 ·rw [IntWalk.i64_in _ (by simp only [Z0]; omega)]; simp only [Z0]; omega
 ·rw [IntWalk.i64_in _ (by simp only [Z0]; omega)]; simp only [Z0]; omega
 ·rw [IntWalk.i64_in _ (by simp only [Z0]; omega)]; simp only [Z0]; omega
 ·exact h0
 ·rw [List.drop_zero, List.take_of_length_le (by rw [hrl, Nat.mul_one]; exact Yd), hrl, Nat.mul_one]; exact Nat.beq_refl _
theorem YG' {W : World} {us us' sz sz' : Int} {da w : Bs} {n p : Nat} (K : ApK us us' sz sz' da w n p) (q : Nat) (sa : Bs) (m : Nat) (r : Bs) (z : Nat) (V : List Value) (hV : V.length = z * 3) (hz : z < 1099511627776) (PR : Mem -> Prop) (hW : ∀ F, AH' W F -> C1OK Θ F fWp (cWo m n r w)) (hcl : ∀ F, C1OK Θ F fCl (cClB n w)) :
  Tri Θ W fAp [.ptr 2 0, sB 4 m] (uD (pV z) us mSt mCk p q da sa (.cells (vmap V) tPw) PR ++ [(2, lgC sz), (4, rB r)]) (iv 0) (uD (pV (z + 1)) us' mSt mCk (p + n) q (da ++ w) sa (.cells (vmap V ++ [sv nm1, iv (Int.ofNat p), sB 1007 n]) tPw) PR ++ ((1007, rB w) :: [(2, lgC sz'), (4, rB r)])) := by
 have hrow : ∀ σ : Nat -> Nat, List.take (p * 1) (List.drop 0 (rowV encB da)) ++ List.take (n * 1) (List.drop 0 (AV.rens σ (rowV encB w))) = rowV encB (da ++ w) := fun σ => by
  rw [K.hn, K.hp, A5', List.drop_zero, List.drop_zero, List.take_of_length_le (by rw [BS', Nat.mul_one]; exact Yd), List.take_of_length_le (by rw [BS', Nat.mul_one]; exact Yd), BY']
 have w3 : ∀ σ : Nat -> Nat, (List.take (n * 1) (List.drop 0 (AV.rens σ (rowV encB w)))).length.beq (n * 1) = true := fun σ => by
  rw [K.hn, A5', List.drop_zero, List.take_of_length_le (by rw [BS', Nat.mul_one]; exact Yd), BS', Nat.mul_one]; exact Nat.beq_refl _
 have w4 : ∀ σ : Nat -> Nat, (List.take (n * 1) (List.drop 0 (AV.rens σ (rowV encB w)))).all AV.one = true := fun σ => by rw [K.hn]; exact TH' w σ
 have ktk : List.take (z * 3) (List.drop 0 (vmap V)) = vmap V := by rw [List.drop_zero, List.take_of_length_le (by rw [CW', hV]; exact Yd)]
 have z1 : (0 + z * 3).ble (vmap V).length = true := AL' (by rw [CW', hV]; omega); have z2 : ((z + 1) * 48).ble 140737488355328 = true := AL' ω; have z3 : (z + 1).ble 9223372036854775807 = true := AL' ω
 have z4 : (List.take (z * 3) (List.drop 0 (vmap V))).length.beq (z * 3) = true := by rw [ktk, CW', hV]; exact Nat.beq_refl _
 refine AF' (con := XZ' m n r w) (hints := hAp us' sz') (lc := []) kD χ (fun F hF => AC' (hW F hF) (AC' (KV' (OD' _) (fun K => ⟨Ye, Ye⟩) (fun K => trivial) F) (AC' (KV' (Q5' _) (fun K => ⟨Ye, Ye⟩) (fun K => trivial) F) (BJ' (hcl F))))) (fun F _ => noL) fun F => ?_
 refine Yj (XC' W us us' sz sz' mSt mCk p q n m z da sa r w V PR F) ⟨⟨?_, (AO' (vs' := [iv 0]) (H' := [(0, dkC (pV (z + 1)) us'), (1001, mpO mSt mCk), (1002, fiC (p + n) q), (1003, rB (da ++ w)), (1004, rB sa), (1005, (.cells (vmap V ++ [sv nm1, iv (Int.ofNat p), sB 1007 n]) tPw)), (1006, .any (frz PR)), (1007, rB w), (2, lgC sz'), (4, rB r)]) [(1001, 1001), (1002, 1002), (1003, 1104), (1004, 1004), (1005, 1103), (1006, 1006), (1007, 1101)] χ χ (Yb) ⟨⟨_, rfl, Yc⟩, ⟨_, rfl, Yc⟩, ⟨_, rfl, Yc⟩, ⟨_, rfl, AQ' (hrow _) rfl⟩, ⟨_, rfl, AQ' rfl rfl⟩, ⟨_, rfl, by rw [ktk]; exact OW.of_eq (by simp only [AO.ren, HT', AS']; rfl)⟩, ⟨_, rfl, Yc⟩, ⟨_, rfl, AQ' (A5' _ _) rfl⟩, ⟨_, rfl, Yc⟩, ⟨_, rfl, AQ' (A5' _ _) rfl⟩, Ye⟩).fits χ⟩⟩
 exact Cc9'
theorem YF' {W : World} {us us' sz sz' : Int} {da w : Bs} {n p : Nat} (K : ApK us us' sz sz' da w n p) (q : Nat) (sa : Bs) (m : Nat) (r : Bs) (O : AO) (PR : Mem -> Prop) (hW : ∀ F, AH' W F -> C1OK Θ F fWp (cWo m n r w)) (hcl : ∀ F, C1OK Θ F fCl (cClB n w)) :
  Tri Θ W fAp [.ptr 2 0, sB 4 m] (uD nilS us mSt mCk p q da sa O PR ++ [(2, lgC sz), (4, rB r)]) (iv 0) (uD (pV (0 + 1)) us' mSt mCk (p + n) q (da ++ w) sa (.cells [sv nm1, iv (Int.ofNat p), sB 1007 n] tPw) PR ++ ((1007, rB w) :: [(2, lgC sz'), (4, rB r)])) := by
 have hrow : ∀ σ : Nat -> Nat, List.take (p * 1) (List.drop 0 (rowV encB da)) ++ List.take (n * 1) (List.drop 0 (AV.rens σ (rowV encB w))) = rowV encB (da ++ w) := fun σ => by
  rw [K.hn, K.hp, A5', List.drop_zero, List.drop_zero, List.take_of_length_le (by rw [BS', Nat.mul_one]; exact Yd), List.take_of_length_le (by rw [BS', Nat.mul_one]; exact Yd), BY']
 have w3 : ∀ σ : Nat -> Nat, (List.take (n * 1) (List.drop 0 (AV.rens σ (rowV encB w)))).length.beq (n * 1) = true := fun σ => by
  rw [K.hn, A5', List.drop_zero, List.take_of_length_le (by rw [BS', Nat.mul_one]; exact Yd), BS', Nat.mul_one]; exact Nat.beq_refl _
 have w4 : ∀ σ : Nat -> Nat, (List.take (n * 1) (List.drop 0 (AV.rens σ (rowV encB w)))).all AV.one = true := fun σ => by rw [K.hn]; exact TH' w σ
 refine AF' (con := XZ' m n r w) (hints := hAp us' sz') (lc := []) kD χ (fun F hF => AC' (hW F hF) (AC' (KV' (OD' _) (fun K => ⟨Ye, Ye⟩) (fun K => trivial) F) (AC' (KV' (Q5' _) (fun K => ⟨Ye, Ye⟩) (fun K => trivial) F) (BJ' (hcl F))))) (fun F _ => noL) fun F => ?_
 refine Yj (XB' W us us' sz sz' mSt mCk p q n m da sa r w O PR F) ⟨⟨?_, (AO' (vs' := [iv 0]) (H' := [(0, dkC (pV (0 + 1)) us'), (1001, mpO mSt mCk), (1002, fiC (p + n) q), (1003, rB (da ++ w)), (1004, rB sa), (1005, (.cells [sv nm1, iv (Int.ofNat p), sB 1007 n] tPw)), (1006, .any (frz PR)), (1007, rB w), (2, lgC sz'), (4, rB r)]) [(1001, 1001), (1002, 1002), (1003, 1104), (1004, 1004), (1005, 1103), (1006, 1006), (1007, 1101)] χ χ (Yb) ⟨⟨_, rfl, Yc⟩, ⟨_, rfl, Yc⟩, ⟨_, rfl, Yc⟩, ⟨_, rfl, AQ' (hrow _) rfl⟩, ⟨_, rfl, AQ' rfl rfl⟩, ⟨_, rfl, Yc⟩, ⟨_, rfl, Yc⟩, ⟨_, rfl, AQ' (A5' _ _) rfl⟩, ⟨_, rfl, Yc⟩, ⟨_, rfl, AQ' (A5' _ _) rfl⟩, Ye⟩).fits χ⟩⟩; exact Cc9'
theorem ap_tri (W : World) (S rs : List Bs) (r : Bs) (hr : r.length <= most) (hS : 0 < (cat S).length) (hz : (cat (S ++ (rs ++ [r]))).length <= 1099511627776) (hk : rs.length < 1099511627776) (hW : ∀ F, AH' W F -> C1OK Θ F fWp (cWo r.length (BF' r).length r (BF' r))) : Tri Θ W fAp [.ptr 2 0, sB 4 r.length] ((0, dO S rs) :: [(2, lgC (Int.ofNat (cat (S ++ rs)).length)), (4, rB r)]) (iv 0) ((0, dO S (rs ++ [r])) :: [(2, lgC (Int.ofNat (cat (S ++ (rs ++ [r]))).length)), (4, rB r)]) := by
 have hlen : (BF' r).length = 8 + r.length := BO' r
 have hcat : cat (S ++ (rs ++ [r])) = cat (S ++ rs) ++ BF' r := by rw [<- List.append_assoc, I7']
 have hsum : (cat (S ++ (rs ++ [r]))).length = (cat (S ++ rs)).length + (BF' r).length := by rw [hcat, List.length_append]
 have K := ApK_mk (da := cat (S ++ rs)) (w := BF' r) ω ω; rw [<- hsum] at K
 have hcl := fun (F : HP) => GB' (l := BF' r) (by rw [hlen]; show _ <= 140737488351232; have : r.length <= 1048576 := hr; omega) ω F
 refine UA' (by rfl) χ fun xs hx => ?_
 have hxl : xs.length = rs.length := by have := congrArg List.length hx; simpa using this
 have hat : (cat (S ++ rs)).length = (cat S).length + lenR xs := by rw [KT', List.length_append, MG' xs rs hx]
 have hg := fZ' (S := S) (vs := [iv 0]) (H0 := [(2, lgC (Int.ofNat (cat (S ++ (rs ++ [r]))).length)), (4, rB r)]) xs hx hr (by rfl) χ (fun K => ⟨Ye, Ye⟩) (fun K h0 => A0' ⟨h0, Ye, Ye, Ye, Ye⟩ (A0' (AR' _ _) A1')); rw [hcat, <- hat, <- hcat] at hg
 cases xs with
 | nil =>
  have := YF' K (cat S).length (cat S) r.length r dumZ (PB []) hW hcl; rw [<- hcat, <- hsum] at this; exact Tri.post this hg
 | cons x xs =>
  have := YG' K (cat S).length (cat S) r.length r (xs.length + 1) (pwV (cat S).length (x :: xs)) (U3' _ _) (by simp only [List.length_cons] at hxl; omega) (PB (x :: xs)) hW hcl; rw [<- hcat, <- hsum] at this; exact Tri.post this hg
open Co
open Int renaming ofNat -> o'
open Go.Value renaming string -> vs'
open Go.Value renaming bool -> vb'
open AO renaming cells -> ce'
open AV renaming v -> v'
open AV renaming ptr -> pt'
open Go.Value renaming slice -> sl'
noncomputable section
abbrev y0' : Δ := ByteArray.mk (Array.mk [])
theorem oCC_eq (W : World) (a : Addr) (n c : Nat) (F : HP) : wRun [] (A6' [hf' fCC 1 1]) [] W fCC [slV (some a) n c] [] [1100, 1101, 1102, 1103] F = VT.leaf (AV.slice 1101 0 (0 + n) 3 (Cp.lo (0 + n))) [some (ce' (rep [s' y0',s' y0',b' false] 0) 58),some (ce' ([] ++ vmap (AM' W a (n * 3))) 58),none,none] 1102 (k5'.a (((p' (n.ble n = true)).a ((p' (((List.range (n * 3)).all fun j => (W.cell? (a.add j)).isSome) = true)).a ((p' ((vmap (AM' W a (n * 3))).all AV.one = true)).a ((p' (Nat.blt 0 n = true)).a (tt'.a ((p' (((0 + n) * 40).ble 140737488355328 = true)).a ((p' ((0 + n).ble 9223372036854775807 = true)).a (tt'.a (f' (Nat.blt 0 (0 + n) = true)))))))))).a k1')) := χ
theorem oMC_eq (m : KM) (c : Nat) (F : HP) : wRunC [] (A6' [hf' fMC 1 1]) [] default fMC [.map 0] [(0, mO m c)] [0, 1100, 1101, 1102] F = VT.leaf (AV.map 1100) [some (AO.map (kM m) c),some (AO.map (kM m) c),none,none] 1101 (k5'.a k1') := χ
def lgD (d : Nat) (sz : Int) : AO := .cells [.ptr d 0, sv nmL, iv 1, iv sz] tLg
def catG (D : AO) (sz : Int) (b : Int) (m : KM) (c : Nat) : LH := [(0, ctO (.ptr 1 0) 1003 b), (1, lgD 2 sz), (2, D), (1003, mO m c)]
def kMd : List Nat := [0, 1, 2, 1003, 1050]
def kLp : List Nat := [0, 1, 2, 1003, 1050, 1051, 1052]
def oMd (D : AO) (sz b0 : Int) (m0 : KM) (c0 : Nat) (l : List Chg) : LH := catG D sz b0 m0 c0 ++ [(1050, rC l)]
def aMd (n i : Nat) : List (Nat × AV) := [(0, .ptr 0 0), (6, sC 1050 n), (25, iv (o' n)), (26, iv (o' i))]
def ixMd : List Nat := [0, 6, 25, 26]
theorem e3' (D : AO) (sz b0 : Int) (m0 : KM) (c0 : Nat) (n i : Nat) (l l2 : List Chg) (F : HP) : AW' [] (A6' [ht' fCm 6 0, ht' fCm 8 4, (fCm, 9, 4, ho 1050 (rC l2)), (fCm, 10, 0, hv (iv (o' (i + 1))))]) [] default fCm (A3' fCm 6) (tms 0 102 (aMd n i)) (oMd D sz b0 m0 c0 l) kMd ixMd F = VT.leaf (AX.normal,[pt' 0 0,AV.slice 1050 0 n 3 (Cp.lo n),i' n,i' (i + 1)],102) [some (ce' [pt' 1 0,AV.map 1003,z' b0] 142),some (ce' [pt' 2 0,s' nmL,i' 1,z' sz] 216),some D,some (AO.map (kM m0) c0),some (ce' (rowV chV l2) 58)] 1100 (h3' i n (((p' ((0 + i * 3 + 2).blt (rowV chV l).length = true)).a ((p' (((rowV chV l).getD (0 + i * 3 + 2) (u')).bool? = some ((rowV chV l).getD (0 + i * 3 + 2) (u')).boolOf)).a (f' (Wk (v' (vb' ((rowV chV l).getD (0 + i * 3 + 2) (u')).boolOf)) j')))).a ((f' (i.blt n = true)).a (((p' ((0 + i * 3 + 1 + 1).ble (rowV chV l).length = true)).a (f' (OW (ce' (splice (rowV chV l) (0 + i * 3 + 1) [s' y0']) 58) (ce' (rowV chV l2) 58)))).a ((k2' i).a k1'))))) := χ
theorem e4' (D : AO) (sz b0 : Int) (m0 : KM) (c0 : Nat) (n i : Nat) (l : List Chg) (F : HP) : AW' [] (A6' [ht' fCm 6 0, hf' fCm 8 4, (fCm, 10, 0, hv (iv (o' (i + 1))))]) [] default fCm (A3' fCm 6) (tms 0 102 (aMd n i)) (oMd D sz b0 m0 c0 l) kMd ixMd F = VT.leaf (AX.normal,[pt' 0 0,AV.slice 1050 0 n 3 (Cp.lo n),i' n,i' (i + 1)],102) [some (ce' [pt' 1 0,AV.map 1003,z' b0] 142),some (ce' [pt' 2 0,s' nmL,i' 1,z' sz] 216),some D,some (AO.map (kM m0) c0),some (ce' (rowV chV l) 58)] 1100 (h3' i n (((p' ((0 + i * 3 + 2).blt (rowV chV l).length = true)).a ((p' (((rowV chV l).getD (0 + i * 3 + 2) (u')).bool? = some ((rowV chV l).getD (0 + i * 3 + 2) (u')).boolOf)).a (f' (Wk (v' (vb' ((rowV chV l).getD (0 + i * 3 + 2) (u')).boolOf)) g')))).a ((k2' i).a k1'))) := χ
abbrev k31' (q0 q1 : Nat) : Cnd := (wb' (decide (o' q0 < o' q1)) g')
theorem e5' (D : AO) (sz b0 : Int) (m0 : KM) (c0 : Nat) (n i : Nat) (l : List Chg) (F : HP) : AW' [] (A6' [hf' fCm 6 0]) [] default fCm (A3' fCm 6) (tms 0 102 (aMd n i)) (oMd D sz b0 m0 c0 l) kMd ixMd F = VT.leaf (AX.exit 0,[pt' 0 0,AV.slice 1050 0 n 3 (Cp.lo n),i' n,i' i],102) [some (ce' [pt' 1 0,AV.map 1003,z' b0] 142),some (ce' [pt' 2 0,s' nmL,i' 1,z' sz] 216),some D,some (AO.map (kM m0) c0),some (ce' (rowV chV l) 58)] 1100 ((k31' i n).a k1') := χ
def gAy : List AV -> AP (Nat × Nat) := fun args => match args with
 | [.ptr i 0, _] => .read i fun o => match o with
  | .cells (_ :: .map j :: _) _ => .ret (i, j)
  | _ => .fail "catalog"
 | _ => .fail "catalog"
def nmAy (p : Nat × Nat) (k : Nat) : Nat := match k with
 | 0 => p.1
 | 1 => p.2
 | k => k
def cAy (k v : Δ) (d : Bool) (b : Int) (m : KM) (c : Nat) (b9 : Int) (m' : KM) (c' : Nat) : List AV -> Option (AP AV) := mkC gAy (fun _ => True) nmAy (fun _ => [.ptr 0 0, .agg [sv k, sv v, bv d]]) (fun _ => [(0, ctO .any 1 b), (1, mO m c)]) (fun _ => .leaf .ret [.tuple []] [(0, ctO .any 1 b9), (1, mO m' c')])
def aLp (n i : Nat) : List (Nat × AV) := [(0, .ptr 0 0), (6, sC 1050 n), (8, .ptr 1051 0), (50, sC 1050 n), (51, iv (o' n)), (52, iv (o' i))]
def ixLp : List Nat := [0, 6, 8, 50, 51, 52]
def oLp (D : AO) (sz b0 : Int) (m0 : KM) (c0 : Nat) (l : List Chg) (b : Int) (m : KM) (c : Nat) : LH := catG D sz b0 m0 c0 ++ [(1050, rC l), (1051, ctO .any 1052 b), (1052, mO m c)]
abbrev k32' (q0 q1 : Δ) (q2 : Bool) : Cnd := (ee' [s' q0,s' q1,b' q2])
abbrev h33' (q0 q1 : Nat) (q2 : List Chg) (q3 q4 : Δ) (q5 : Bool) (z : Cnd) : Cnd := ((wb' (decide (o' q0 < o' q1)) j').a ((f' (q0.blt q1 = true)).a (((p' ((List.take 3 (List.drop (0 + q0 * 3) (rowV chV q2))).length.beq 3 = true)).a ((p' (List.take 3 (List.drop (0 + q0 * 3) (rowV chV q2)) = [v' (vs' ((List.take 3 (List.drop (0 + q0 * 3) (rowV chV q2))).getD 0 (u')).strOf),v' (vs' ((List.take 3 (List.drop (0 + q0 * 3) (rowV chV q2))).getD 1 (u')).strOf),v' (vb' ((List.take 3 (List.drop (0 + q0 * 3) (rowV chV q2))).getD 2 (u')).boolOf)])).a (f' (Wk (AV.agg [v' (vs' ((List.take 3 (List.drop (0 + q0 * 3) (rowV chV q2))).getD 0 (u')).strOf),v' (vs' ((List.take 3 (List.drop (0 + q0 * 3) (rowV chV q2))).getD 1 (u')).strOf),v' (vb' ((List.take 3 (List.drop (0 + q0 * 3) (rowV chV q2))).getD 2 (u')).boolOf)]) (AV.agg [s' q3,s' q4,b' q5]))))).a ((fe' true).a z))))
theorem oLp_eq (D : AO) (sz b0 : Int) (m0 : KM) (c0 : Nat) (n i : Nat) (l : List Chg) (k v : Δ) (d : Bool) (b : Int) (m : KM) (c : Nat) (b9 : Int) (m' : KM) (c' : Nat) (F : HP) : AW' [(fAy, cAy k v d b m c b9 m' c')] (A6' [ht' fCm 13 0, (fCm, 14, 1, hv (.agg [sv k, sv v, bv d])), (fCm, 16, 0, hv (iv (o' (i + 1))))]) [] default fCm (A3' fCm 13) (tms 0 102 (aLp n i)) (oLp D sz b0 m0 c0 l b m c) kLp ixLp F = VT.leaf (AX.normal,[pt' 0 0,AV.slice 1050 0 n 3 (Cp.lo n),pt' 1051 0,AV.slice 1050 0 n 3 (Cp.lo n),i' n,i' (i + 1)],102) [some (ce' [pt' 1 0,AV.map 1003,z' b0] 142),some (ce' [pt' 2 0,s' nmL,i' 1,z' sz] 216),some D,some (AO.map (kM m0) c0),some (ce' (rowV chV l) 58),some (ce' [a',AV.map 1052,z' b9] 142),some (AO.map (renE (sgN (nmAy (1051,1052)) [] 0) (kM m')) c')] 1101 (h33' i n l k v d ((k32' k v d).a (((Cnd.p True).a ((vw' [pt' 1051 0,AV.agg [s' k,s' v,b' d]]).a ((ow' (ce' [a',AV.map 1052,z' b] 142)).a (f' (OW (AO.map (kM m) c) (AO.map (renE (nmAy (1051,1052)) (kM m)) c)))))).a ((k2' i).a k1')))) := χ
theorem e8' (D : AO) (sz b0 : Int) (m0 : KM) (c0 : Nat) (n i : Nat) (l : List Chg) (b : Int) (m : KM) (c : Nat) (F : HP) : AW' [] (A6' [hf' fCm 13 0]) [] default fCm (A3' fCm 13) (tms 0 102 (aLp n i)) (oLp D sz b0 m0 c0 l b m c) kLp ixLp F = VT.leaf (AX.exit 2,[pt' 0 0,AV.slice 1050 0 n 3 (Cp.lo n),pt' 1051 0,AV.slice 1050 0 n 3 (Cp.lo n),i' n,i' i],102) [some (ce' [pt' 1 0,AV.map 1003,z' b0] 142),some (ce' [pt' 2 0,s' nmL,i' 1,z' sz] 216),some D,some (AO.map (kM m0) c0),some (ce' (rowV chV l) 58),some (ce' [a',AV.map 1052,z' b] 142),some (AO.map (kM m) c)] 1100 ((k31' i n).a k1') := χ
end
noncomputable section
def oAy (b : Int) (m : KM) (c : Nat) : LH := [(0, ctO .any 1 b), (1, mO m c)]
def kAy : List Nat := [0, 1, 1100, 1101, 1102]
def hAyY (old : Δ) (b1 : Int) (m1 : KM) (c : Nat) : List (FuncId × Nat × Nat × Hint) := [(fAy, 1, 6, hv (.tuple [.agg [sv old], .lit true])), (fAy, 3, 11, hv (iv b1)), (fAy, 4, 6, ho 1 (mO m1 c))]
def hAyN : List (FuncId × Nat × Nat × Hint) := [(fAy, 1, 6, hv (.tuple [.agg [sv ⟨#[]⟩], .lit false]))]
def hAyS (b2 : Int) (m2 : KM) (c2 : Nat) : List (FuncId × Nat × Nat × Hint) := [(fAy, 6, 9, ho 1 (mO m2 c2)), (fAy, 7, 11, hv (iv b2))]
abbrev k34' : Cnd := (ee' (some true))
abbrev k35' (q0 : Δ) : Cnd := (ee' (s' q0))
abbrev k36' (q0 : Int) (q1 q2 : Δ) (q3 : Int) : Cnd := (f' (Wk (z' (IntKind.i64.wrap (q0 - IntKind.i64.wrap (↑q1.size + ↑q2.size)))) (z' q3)))
abbrev h37' (q0 : Int) (q1 q2 : Δ) (z : Cnd) : Cnd := ((ee' (z' q0)).a ((ee' (s' q1)).a ((ee' (s' q2)).a z)))
abbrev h38' (q0 : Δ) (z : Cnd) : Cnd := ((fe' true).a ((ee' (s' q0)).a z))
theorem X3' (m m1 : KM) (c : Nat) (b b1 : Int) (k v old : Δ) (F : HP) : wRun [] (A6' (hf' fAy 5 2 :: hAyY old b1 m1 c)) [] default fAy [.ptr 0 0, .agg [sv k, sv v, bv true]] (oAy b m c) kAy F = VT.leaf (AV.tuple []) [some (ce' [a',AV.map 1,z' b1] 142),some (AO.map (kM m1) c),some (ce' [s' k,s' v,b' true] 58),some (ce' [s' old] 136),none] 1102 (h38' k (((p' (findKey Tryz.prog (envW [] (A6' [(27,5,2,hv g'),(27,1,6,hv (AV.tuple [AV.agg [s' old],j'])),(27,3,11,hv (z' b1)),(27,4,6,ho 1 (AO.map (kM m1) c))]) [] default F) 9 (s' k) (kM m) 0 = AP.ret (B4' (s' k) (kM m) 0))).a (f' (Wk (AV.tuple [D2' (B4' (s' k) (kM m) 0) (Value.agg (Array.mk [vs' y0'])),v' (vb' (B4' (s' k) (kM m) 0).isSome)]) (AV.tuple [AV.agg [s' old],j'])))).a (k7'.a (h37' b k old ((k36' b k old b1).a (h15' ((k35' k).a (((p' (findKey Tryz.prog (envW [] (A6' [(27,5,2,hv g'),(27,1,6,hv (AV.tuple [AV.agg [s' old],j'])),(27,3,11,hv (z' b1)),(27,4,6,ho 1 (AO.map (kM m1) c))]) [] default F) 9 (s' k) (kM m) 0 = AP.ret (B4' (s' k) (kM m) 0))).a (f' (OW (AO.map (delE (s' k) (kM m)) c) (AO.map (kM m1) c)))).a (k34'.a (k5'.a k1')))))))))) := χ
abbrev k39' (q0 : Int) (q1 q2 : Δ) (q3 : Int) : Cnd := (f' (Wk (z' (IntKind.i64.wrap (q0 + IntKind.i64.wrap (↑q1.size + ↑q2.size)))) (z' q3)))
abbrev h40' (q0 q1 : Δ) (z : Cnd) : Cnd := ((ee' (s' q0)).a ((ee' (s' q1)).a z))
abbrev k41' : Cnd := (ee' (some false))
theorem X4' (m m1 m2 : KM) (c c2 : Nat) (b b1 b2 : Int) (k v old : Δ) (F : HP) : wRun [] (A6' (ht' fAy 5 2 :: (hAyY old b1 m1 c ++ hAyS b2 m2 c2))) [] default fAy [.ptr 0 0, .agg [sv k, sv v, bv false]] (oAy b m c) kAy F = VT.leaf (AV.tuple []) [some (ce' [a',AV.map 1,z' b2] 142),some (AO.map (kM m2) c2),some (ce' [s' k,s' v,b' false] 58),some (ce' [s' old] 136),none] 1102 (h38' k (((p' (findKey Tryz.prog (envW [] (A6' [(27,5,2,hv j'),(27,1,6,hv (AV.tuple [AV.agg [s' old],j'])),(27,3,11,hv (z' b1)),(27,4,6,ho 1 (AO.map (kM m1) c)),(27,6,9,ho 1 (AO.map (kM m2) c2)),(27,7,11,hv (z' b2))]) [] default F) 9 (s' k) (kM m) 0 = AP.ret (B4' (s' k) (kM m) 0))).a (f' (Wk (AV.tuple [D2' (B4' (s' k) (kM m) 0) (Value.agg (Array.mk [vs' y0'])),v' (vb' (B4' (s' k) (kM m) 0).isSome)]) (AV.tuple [AV.agg [s' old],j'])))).a (k7'.a (h37' b k old ((k36' b k old b1).a (h15' ((k35' k).a (((p' (findKey Tryz.prog (envW [] (A6' [(27,5,2,hv j'),(27,1,6,hv (AV.tuple [AV.agg [s' old],j'])),(27,3,11,hv (z' b1)),(27,4,6,ho 1 (AO.map (kM m1) c)),(27,6,9,ho 1 (AO.map (kM m2) c2)),(27,7,11,hv (z' b2))]) [] default F) 9 (s' k) (kM m) 0 = AP.ret (B4' (s' k) (kM m) 0))).a (f' (OW (AO.map (delE (s' k) (kM m)) c) (AO.map (kM m1) c)))).a (k41'.a (h10' (h40' k v (((p' (findKey Tryz.prog (envW [] (A6' [(27,5,2,hv j'),(27,1,6,hv (AV.tuple [AV.agg [s' old],j'])),(27,3,11,hv (z' b1)),(27,4,6,ho 1 (AO.map (kM m1) c)),(27,6,9,ho 1 (AO.map (kM m2) c2)),(27,7,11,hv (z' b2))]) [] default F) 9 (s' k) (kM m1) 0 = AP.ret (B4' (s' k) (kM m1) 0))).a ((p' (D6' (s' k) (kM m1))).a (f' (OW (AO.map (setE (s' k) (AV.agg [s' v]) (kM m1) c) (GC' (s' k) (kM m1) c)) (AO.map (kM m2) c2))))).a (h37' b1 k v ((k39' b1 k v b2).a (k7'.a k1'))))))))))))))) := χ
theorem X5' (m : KM) (c : Nat) (b : Int) (k v : Δ) (F : HP) : wRun [] (A6' (hf' fAy 5 2 :: hAyN)) [] default fAy [.ptr 0 0, .agg [sv k, sv v, bv true]] (oAy b m c) kAy F = VT.leaf (AV.tuple []) [some (ce' [a',AV.map 1,z' b] 142),some (AO.map (kM m) c),some (ce' [s' k,s' v,b' true] 58),some (ce' [s' y0'] 136),none] 1102 (h38' k (((p' (findKey Tryz.prog (envW [] (A6' [(27,5,2,hv g'),(27,1,6,hv (AV.tuple [AV.agg [s' y0'],g']))]) [] default F) 9 (s' k) (kM m) 0 = AP.ret (B4' (s' k) (kM m) 0))).a (f' (Wk (AV.tuple [D2' (B4' (s' k) (kM m) 0) (Value.agg (Array.mk [vs' y0'])),v' (vb' (B4' (s' k) (kM m) 0).isSome)]) (AV.tuple [AV.agg [s' y0'],g'])))).a (k7'.a (k34'.a (k5'.a k1'))))) := χ
theorem X6' (m m2 : KM) (c c2 : Nat) (b b2 : Int) (k v : Δ) (F : HP) : wRun [] (A6' (ht' fAy 5 2 :: (hAyN ++ hAyS b2 m2 c2))) [] default fAy [.ptr 0 0, .agg [sv k, sv v, bv false]] (oAy b m c) kAy F = VT.leaf (AV.tuple []) [some (ce' [a',AV.map 1,z' b2] 142),some (AO.map (kM m2) c2),some (ce' [s' k,s' v,b' false] 58),some (ce' [s' y0'] 136),none] 1102 (h38' k (((p' (findKey Tryz.prog (envW [] (A6' [(27,5,2,hv j'),(27,1,6,hv (AV.tuple [AV.agg [s' y0'],g'])),(27,6,9,ho 1 (AO.map (kM m2) c2)),(27,7,11,hv (z' b2))]) [] default F) 9 (s' k) (kM m) 0 = AP.ret (B4' (s' k) (kM m) 0))).a (f' (Wk (AV.tuple [D2' (B4' (s' k) (kM m) 0) (Value.agg (Array.mk [vs' y0'])),v' (vb' (B4' (s' k) (kM m) 0).isSome)]) (AV.tuple [AV.agg [s' y0'],g'])))).a (k7'.a (k41'.a (h10' (h40' k v (((p' (findKey Tryz.prog (envW [] (A6' [(27,5,2,hv j'),(27,1,6,hv (AV.tuple [AV.agg [s' y0'],g'])),(27,6,9,ho 1 (AO.map (kM m2) c2)),(27,7,11,hv (z' b2))]) [] default F) 9 (s' k) (kM m) 0 = AP.ret (B4' (s' k) (kM m) 0))).a ((p' (D6' (s' k) (kM m))).a (f' (OW (AO.map (setE (s' k) (AV.agg [s' v]) (kM m) c) (GC' (s' k) (kM m) c)) (AO.map (kM m2) c2))))).a (h37' b k v ((k39' b k v b2).a (k7'.a k1')))))))))) := χ
def aCk1 (oa : Option Addr) (n c : Nat) (s : Int) (i : Nat) : List (Nat × AV) := [(0, slV oa n c), (2, iv 0), (3, iv s), (8, slV oa n c), (9, iv (o' n)), (10, iv (o' i))]
def XO' : List Nat := [0, 2, 3, 8, 9, 10]
def hCk1 (k v : Δ) (d : Bool) (s1 s2 : Int) (i : Nat) : BI' := A6' [ht' fCk 3 0, (fCk, 4, 1, hv (.agg [sv k, sv v, bv d])), (fCk, 5, 4, hv (iv s1)), (fCk, 6, 2, hv (.lit (!d))), (fCk, 7, 4, hv (iv s2)), (fCk, 8, 0, hv (iv (o' (i + 1))))]
abbrev k42' (q0 : Int) (q1 : Δ) (q2 : Int) : Cnd := (f' (Wk (z' (IntKind.i64.wrap (q0 + ↑q1.size))) (z' q2)))
abbrev k43' (q0 : World) (q1 : Addr) (q2 : Nat) (q3 q4 : Δ) : Cnd := ((p' (([0,1,2].all fun j => (q0.cell? ((q1.add (q2 * 3)).add j)).isSome) = true)).a ((p' ([v' ((q0.cell? ((q1.add (q2 * 3)).add 0)).getD (Value.tuple (Array.mk []))),v' ((q0.cell? (Addr.mk (q1.add (q2 * 3)).block ((q1.add (q2 * 3)).off + 1) none)).getD (Value.tuple (Array.mk []))),v' ((q0.cell? (Addr.mk (q1.add (q2 * 3)).block ((q1.add (q2 * 3)).off + 2) none)).getD (Value.tuple (Array.mk [])))] = [v' (vs' (v' ((q0.cell? ((q1.add (q2 * 3)).add 0)).getD (Value.tuple (Array.mk [])))).strOf),v' (vs' (v' ((q0.cell? (Addr.mk (q1.add (q2 * 3)).block ((q1.add (q2 * 3)).off + 1) none)).getD (Value.tuple (Array.mk [])))).strOf),v' (vb' (v' ((q0.cell? (Addr.mk (q1.add (q2 * 3)).block ((q1.add (q2 * 3)).off + 2) none)).getD (Value.tuple (Array.mk [])))).boolOf)])).a (f' (Wk (AV.agg [v' (vs' (v' ((q0.cell? ((q1.add (q2 * 3)).add 0)).getD (Value.tuple (Array.mk [])))).strOf),v' (vs' (v' ((q0.cell? (Addr.mk (q1.add (q2 * 3)).block ((q1.add (q2 * 3)).off + 1) none)).getD (Value.tuple (Array.mk [])))).strOf),v' (vb' (v' ((q0.cell? (Addr.mk (q1.add (q2 * 3)).block ((q1.add (q2 * 3)).off + 2) none)).getD (Value.tuple (Array.mk [])))).boolOf)]) (AV.agg [s' q3,s' q4,b' true])))))
theorem WY' (W : World) (a : Addr) (n c i : Nat) (s s1 : Int) (k v : Δ) (F : HP) : AW' [] (hCk1 k v true s1 s1 i) [] W fCk (A3' fCk 3) (tms 0 51 (aCk1 (some a) n c s i)) [] [] XO' F = VT.leaf (AX.normal,[v' (sl' (some a) n c),i' 0,z' s1,v' (sl' (some a) n c),i' n,i' (i + 1)],51) [] 1101 (h3' i n ((k43' W a i k v).a (h38' k ((k42' s k s1).a (k34'.a (k5'.a ((k2' i).a k1'))))))) := χ
abbrev k44' (q0 : World) (q1 : Addr) (q2 : Nat) (q3 q4 : Δ) : Cnd := ((p' (([0,1,2].all fun j => (q0.cell? ((q1.add (q2 * 3)).add j)).isSome) = true)).a ((p' ([v' ((q0.cell? ((q1.add (q2 * 3)).add 0)).getD (Value.tuple (Array.mk []))),v' ((q0.cell? (Addr.mk (q1.add (q2 * 3)).block ((q1.add (q2 * 3)).off + 1) none)).getD (Value.tuple (Array.mk []))),v' ((q0.cell? (Addr.mk (q1.add (q2 * 3)).block ((q1.add (q2 * 3)).off + 2) none)).getD (Value.tuple (Array.mk [])))] = [v' (vs' (v' ((q0.cell? ((q1.add (q2 * 3)).add 0)).getD (Value.tuple (Array.mk [])))).strOf),v' (vs' (v' ((q0.cell? (Addr.mk (q1.add (q2 * 3)).block ((q1.add (q2 * 3)).off + 1) none)).getD (Value.tuple (Array.mk [])))).strOf),v' (vb' (v' ((q0.cell? (Addr.mk (q1.add (q2 * 3)).block ((q1.add (q2 * 3)).off + 2) none)).getD (Value.tuple (Array.mk [])))).boolOf)])).a (f' (Wk (AV.agg [v' (vs' (v' ((q0.cell? ((q1.add (q2 * 3)).add 0)).getD (Value.tuple (Array.mk [])))).strOf),v' (vs' (v' ((q0.cell? (Addr.mk (q1.add (q2 * 3)).block ((q1.add (q2 * 3)).off + 1) none)).getD (Value.tuple (Array.mk [])))).strOf),v' (vb' (v' ((q0.cell? (Addr.mk (q1.add (q2 * 3)).block ((q1.add (q2 * 3)).off + 2) none)).getD (Value.tuple (Array.mk [])))).boolOf)]) (AV.agg [s' q3,s' q4,b' false])))))
theorem WW' (W : World) (a : Addr) (n c i : Nat) (s s1 s2 : Int) (k v : Δ) (F : HP) : AW' [] (hCk1 k v false s1 s2 i) [] W fCk (A3' fCk 3) (tms 0 51 (aCk1 (some a) n c s i)) [] [] XO' F = VT.leaf (AX.normal,[v' (sl' (some a) n c),i' 0,z' s2,v' (sl' (some a) n c),i' n,i' (i + 1)],51) [] 1101 (h3' i n ((k44' W a i k v).a (h38' k ((k42' s k s1).a (k41'.a (k22'.a ((k35' v).a ((k42' s1 v s2).a ((k2' i).a k1'))))))))) := χ
theorem WX' (W : World) (oa : Option Addr) (n c i : Nat) (s : Int) (F : HP) : AW' [] (A6' [hf' fCk 3 0]) [] W fCk (A3' fCk 3) (tms 0 51 (aCk1 oa n c s i)) [] [] XO' F = VT.leaf (AX.exit 0,[v' (sl' oa n c),i' 0,z' s,v' (sl' oa n c),i' n,i' i],51) [] 1100 ((k31' i n).a k1') := χ
def aCk2 (oa : Option Addr) (n c : Nat) (i : Nat) : List (Nat × AV) := [(2, iv 0), (35, slV oa n c), (36, iv (o' n)), (37, iv (o' i))]
def SR' : List Nat := [2, 35, 36, 37]
def hCk2 (k v : Δ) (d : Bool) (b1 b2 : Bool) (i : Nat) : BI' := A6' [ht' fCk 12 0, (fCk, 13, 1, hv (.agg [sv k, sv v, bv d])), (fCk, 14, 2, hv (.lit b1)), (fCk, 14, 7, hv (.lit b2)), (fCk, 16, 0, hv (iv (o' (i + 1))))]
abbrev h45' (q0 q1 : Nat) (q2 : World) (q3 : Addr) (q4 q5 : Δ) (q6 : Bool) (z : Cnd) : Cnd := ((wb' (decide (o' q0 < o' q1)) j').a ((f' (q0.blt q1 = true)).a (((p' (([0,1,2].all fun j => (q2.cell? ((q3.add (q0 * 3)).add j)).isSome) = true)).a ((p' ([v' ((q2.cell? ((q3.add (q0 * 3)).add 0)).getD (Value.tuple (Array.mk []))),v' ((q2.cell? (Addr.mk (q3.add (q0 * 3)).block ((q3.add (q0 * 3)).off + 1) none)).getD (Value.tuple (Array.mk []))),v' ((q2.cell? (Addr.mk (q3.add (q0 * 3)).block ((q3.add (q0 * 3)).off + 2) none)).getD (Value.tuple (Array.mk [])))] = [v' (vs' (v' ((q2.cell? ((q3.add (q0 * 3)).add 0)).getD (Value.tuple (Array.mk [])))).strOf),v' (vs' (v' ((q2.cell? (Addr.mk (q3.add (q0 * 3)).block ((q3.add (q0 * 3)).off + 1) none)).getD (Value.tuple (Array.mk [])))).strOf),v' (vb' (v' ((q2.cell? (Addr.mk (q3.add (q0 * 3)).block ((q3.add (q0 * 3)).off + 2) none)).getD (Value.tuple (Array.mk [])))).boolOf)])).a (f' (Wk (AV.agg [v' (vs' (v' ((q2.cell? ((q3.add (q0 * 3)).add 0)).getD (Value.tuple (Array.mk [])))).strOf),v' (vs' (v' ((q2.cell? (Addr.mk (q3.add (q0 * 3)).block ((q3.add (q0 * 3)).off + 1) none)).getD (Value.tuple (Array.mk [])))).strOf),v' (vb' (v' ((q2.cell? (Addr.mk (q3.add (q0 * 3)).block ((q3.add (q0 * 3)).off + 2) none)).getD (Value.tuple (Array.mk [])))).boolOf)]) (AV.agg [s' q4,s' q5,b' q6]))))).a ((fe' true).a ((ee' (s' q4)).a z)))))
theorem RD' (W : World) (a : Addr) (n c i : Nat) (k v : Δ) (d : Bool) (F : HP) : AW' [] (hCk2 k v d false false i) [] W fCk (A3' fCk 12) (tms 0 51 (aCk2 (some a) n c i)) [] [] SR' F = VT.leaf (AX.normal,[i' 0,v' (sl' (some a) n c),i' n,i' (i + 1)],51) [] 1101 (h45' i n W a k v d ((wb' (k.toList == []) g').a ((k35' k).a ((wb' (decide (↑k.size > o' 255)) g').a ((k2' i).a k1'))))) := χ
theorem WT' (W : World) (a : Addr) (n c i : Nat) (k v : Δ) (d : Bool) (F : HP) : AW' [] (hCk2 k v d true false i) [] W fCk (A3' fCk 12) (tms 0 51 (aCk2 (some a) n c i)) [] [] SR' F = VT.leaf (AX.ret,[i' 130,v' (sl' (some a) n c),i' n,i' i],51) [] 1101 (h45' i n W a k v d ((wb' (k.toList == []) j').a k1')) := χ
theorem WU' (W : World) (a : Addr) (n c i : Nat) (k v : Δ) (d : Bool) (F : HP) : AW' [] (hCk2 k v d false true i) [] W fCk (A3' fCk 12) (tms 0 51 (aCk2 (some a) n c i)) [] [] SR' F = VT.leaf (AX.ret,[i' 130,v' (sl' (some a) n c),i' n,i' i],51) [] 1101 (h45' i n W a k v d ((wb' (k.toList == []) g').a ((k35' k).a ((wb' (decide (↑k.size > o' 255)) j').a k1')))) := χ
theorem WV' (W : World) (oa : Option Addr) (n c i : Nat) (F : HP) : AW' [] (A6' [hf' fCk 12 0]) [] W fCk (A3' fCk 12) (tms 0 51 (aCk2 oa n c i)) [] [] SR' F = VT.leaf (AX.exit 2,[i' 0,v' (sl' oa n c),i' n,i' i],51) [] 1100 ((k31' i n).a k1') := χ
def lCk1 (oa : Option Addr) (n c : Nat) (s : Int) : List AV -> AP (AX × List AV) := mkL (fun _ => .ret ()) (fun _ => True) (fun _ k => k) (fun _ => tms 0 51 (aCk1 oa n c 0 0)) (fun _ => []) (fun _ => .leaf (.exit 0) (tms 0 51 [(0, slV oa n c), (2, iv 0), (3, iv s)]) [])
def lCk2 (oa : Option Addr) (n c : Nat) : List AV -> AP (AX × List AV) := mkL (fun _ => .ret ()) (fun _ => True) (fun _ k => k) (fun _ => tms 0 51 (aCk2 oa n c 0)) (fun _ => []) (fun _ => .leaf (.exit 2) (tms 0 51 []) [])
def UJ' (oa : Option Addr) (n c : Nat) : List AV -> AP (AX × List AV) := mkL (fun _ => .ret ()) (fun _ => True) (fun _ k => k) (fun _ => tms 0 51 (aCk2 oa n c 0)) (fun _ => []) (fun _ => .leaf .ret (tms 0 51 [(2, iv 130)]) [])
def hCk (b1 b2 : Bool) : BI' := A6' [(fCk, 9, 2, hv (.lit b1)), (fCk, 9, 5, hv (.lit b2))]
abbrev k46' (q0 : Option Addr) (q1 q2 : Nat) (q3 : Int) : Cnd := (p' (VW (v' (sl' q0 q1 q2)::a'::i' 0::z' q3::ra16 (ra8 (v' (sl' q0 q1 q2)::z' ↑q1::g'::g'::z' q3::g'::g'::v' (sl' q0 q1 q2)::z' ↑q1::i' 0::ra8 (ra4 (a'::[]))))) (a'::a'::i' 0::ra16 (ra16 (v' (sl' q0 q1 q2)::i' q1::i' 0::ra8 (ra4 (a'::[])))))))
abbrev k47' (q0 : Int) : Cnd := (wb' (decide (q0 > o' 500000)) g')
abbrev k48' (q0 : Nat) : Cnd := (wb' (decide (↑q0 > o' 10000)) g')
abbrev h49' (q0 : Option Addr) (q1 q2 : Nat) (q3 : Int) (z : Cnd) : Cnd := ((p' ((fCk,3,A3' fCk 3,lCk1 q0 q1 q2 q3).snd.snd.fst = (fCk,3,A3' fCk 3,lCk1 q0 q1 q2 q3).snd.snd.fst)).a ((p' True).a ((p' (VW (v' (sl' q0 q1 q2)::u'::i' 0::i' 0::ru4 (v' (sl' q0 q1 q2)::z' ↑q1::i' 0::ru16 (ru16 (ru8 ([]))))) (v' (sl' q0 q1 q2)::a'::i' 0::i' 0::ra4 (v' (sl' q0 q1 q2)::i' q1::i' 0::ra16 (ra16 (ra8 ([]))))))).a z)))
theorem fA' (W : World) (oa : Option Addr) (n c : Nat) (s : Int) (F : HP) : wRun [] (hCk false false) [(fCk, 3, A3' fCk 3, lCk1 oa n c s), (fCk, 12, A3' fCk 12, lCk2 oa n c)] W fCk [slV oa n c] [] [] F = VT.leaf (i' 0) [] 1100 (h49' oa n c s ((k48' n).a ((k47' s).a ((p' ((fCk,12,A3' fCk 12,lCk2 oa n c).snd.snd.fst = (fCk,12,A3' fCk 12,lCk2 oa n c).snd.snd.fst)).a (k4'.a ((k46' oa n c s).a k1')))))) := χ
theorem fB' (W : World) (oa : Option Addr) (n c : Nat) (s : Int) (F : HP) : wRun [] (hCk false false) [(fCk, 3, A3' fCk 3, lCk1 oa n c s), (fCk, 12, A3' fCk 12, UJ' oa n c)] W fCk [slV oa n c] [] [] F = VT.leaf (i' 130) [] 1100 (h49' oa n c s ((k48' n).a ((k47' s).a ((p' ((fCk,12,A3' fCk 12,UJ' oa n c).snd.snd.fst = (fCk,12,A3' fCk 12,UJ' oa n c).snd.snd.fst)).a (k4'.a ((k46' oa n c s).a k1')))))) := χ
end
end Go.Proofs.YtnnojnlejlokhaaGreatDoor.Wk
namespace Go.Proofs.YtnnojnlejlokhaaGreatDoor.Eng
open Go Go.RowKit
section
variable {P : Program} {w : World} {α : Type}
theorem ZU' (a b : Δ) : (a == b) = decide (a = b) := by
 cases a with | mk a => cases b with | mk b =>
 show (a == b) = _
 by_cases h : a = b
 ·subst h; simp
 ·have : ByteArray.mk a ≠ ByteArray.mk b := fun e => h (ByteArray.mk.inj e)
  simp [h]
end
end Go.Proofs.YtnnojnlejlokhaaGreatDoor.Eng
namespace Go.Proofs.YtnnojnlejlokhaaGreatDoor.Wk
open Go Go.RowKit Eng Kit Tree Co
open Int renaming ofNat -> o'
open Go.Value renaming string -> vs'
open Go.Value renaming int -> vi'
open AO renaming cells -> ce'
open AV renaming v -> v'
open AV renaming ptr -> pt'
open Go.IntKind renaming u8 -> u8'
open Cnd renaming holds -> ch'
open Nat renaming blt_eq -> bl'
open List renaming length_append -> la'
variable {W : World} {i c : Nat} {k : Δ}
theorem H9' : KOK vs' where
 inj a b := by simp [valQ]
 same k := by simp [Instr.sameBits, ZU']
theorem fT' : KTy Θ 9 vs' := by
 intro E a b
 have hu : Θ.underlying 9 = some .string := χ
 show (match Instr.sameNow ((Θ.underlying 9).getD .invalid) (.string a) (.string b) with
  | some r => pure r
  | none => AP.opt "key " (CE' Θ (Op.equal 9 (.string a) (.string b)))) = AP.ret (decide (a = b))
 rw [hu]; show (AP.ret (a == b) : AP Bool) = _; rw [ZU']
theorem fk_m (E : Env) (k : Δ) (m : KM) : findKey Θ E 9 (.v (.string k)) (kM m) 0 = .ret (B4' (.v (.string k)) (kM m) 0) := LS' H9' fT' k m 0
theorem st_m (k : Δ) (m : KM) : D6' (.v (.string k)) (kM m) := TQ' H9' k m
theorem fx_m (k : Δ) (m : KM) (z : Value) : D2' (B4' (.v (.string k)) (kM m) 0) z = ((B5' k m).map enV).getD (.v z) := XS' H9' k m z
theorem fs_m (k : Δ) (m : KM) : (B4' (.v (.string k)) (kM m) 0).isSome = (B5' k m).isSome := MH' H9' k m
theorem set_m (k v : Δ) (m : KM) (c : Nat) : setE (.v (.string k)) (.agg [.v (.string v)]) (kM m) c = kM (kset m c k v) := aL' H9' k v m c
theorem bump_m (k : Δ) (m : KM) (c : Nat) : GC' (.v (.string k)) (kM m) c = HA' m c k := Y6' H9' k m c
theorem del_m (k : Δ) (m : KM) : delE (.v (.string k)) (kM m) = kM (kdel m k) := g8' H9' k m
theorem a3' {s : Value} : Wk (.v (.agg #[s])) (.agg [.v s]) := fun N y h => by
 have := VR_v.1 h; subst this; simp only [VR, VRs]; exact ⟨[s], ⟨s, [], rfl, rfl, rfl⟩, rfl⟩
theorem TE' {a b : List AV} (h : VW a b) : Wk (.tuple a) (.tuple b) := fun N y hy => by
 simp only [VR] at hy ⊢; obtain ⟨cs, h1, rfl⟩ := hy; exact ⟨cs, h _ _ h1, rfl⟩
theorem O2' {old : Δ} {m : KM} {z : Value} (h : B5' k m = some old) : Wk (.tuple [D2' (B4' (.v (.string k)) (kM m) 0) z, .v (.bool (B4' (.v (.string k)) (kM m) 0).isSome)]) (.tuple [.agg [.v (.string old)], .lit true]) := by
 rw [fx_m, fs_m, h]; exact TE' (VW.cons Ya (VW.cons (AT' _) VW.nil))
theorem O3' {m : KM} (h : B5' k m = none) : Wk (.tuple [D2' (B4' (.v (.string k)) (kM m) 0) (.agg #[.string ⟨#[]⟩]), .v (.bool (B4' (.v (.string k)) (kM m) 0).isSome)]) (.tuple [.agg [.v (.string ⟨#[]⟩)], .lit false]) := by
 rw [fx_m, fs_m, h]; exact TE' (VW.cons a3' (VW.cons (AT' _) VW.nil))
def C8' : Nat := 1000000000000
theorem w_sub {b k v : Nat} (hb : b <= C8') (h : k + v <= b) : Wk (.v (.int .i64 (IntKind.i64.wrap (o' b - IntKind.i64.wrap ((k : Int) + (v : Int)))))) (.v (.int .i64 (o' (b - (k + v))))) := by
 unfold C8' at hb; rw [IntWalk.i64_in ((k : Int) + (v : Int)) ω, IntWalk.i64_in _ (by simp only [Z0]; omega)]; exact C6' (by simp only [Z0]; omega)
theorem w_add {b k v : Nat} (hb : b + (k + v) <= C8') : Wk (.v (.int .i64 (IntKind.i64.wrap (o' b + IntKind.i64.wrap ((k : Int) + (v : Int)))))) (.v (.int .i64 (o' (b + (k + v))))) := by
 unfold C8' at hb; rw [IntWalk.i64_in ((k : Int) + (v : Int)) ω, IntWalk.i64_in _ (by simp only [Z0]; omega)]; exact C6' (by simp only [Z0]; omega)
def oSt (s : St) : LH := [(0, ctO .any 1 (o' s.b)), (1, mO s.m s.c)]
theorem TW' {κ α : Type} (σ : Nat -> Nat) (kv : κ -> Value) (ev : α -> AV) (hev : ∀ x, (ev x).ren σ = ev x) : ∀ m : KMap κ α, renE σ (kE kv ev m) = kE kv ev m
 | [] => rfl
 | e :: m => by
  show (_, _, _) :: renE σ (kE kv ev m) = _; rw [TW' σ kv ev hev m, hev]; rfl
theorem ZN' {κ α : Type} (K : Nat -> Bool) (kv : κ -> Value) (ev : α -> AV) (hev : ∀ x, AV.cl K (ev x)) : ∀ m : KMap κ α, clE K (kE kv ev m)
 | [] => trivial
 | e :: m => ⟨Ye, hev _, ZN' K kv ev hev m⟩
theorem BQ' (σ : Nat -> Nat) (m : KM) : renE σ (kM m) = kM m := TW' σ vs' enV (fun _ => rfl) m
theorem mO_ren (σ : Nat -> Nat) (m : KM) (c : Nat) : (mO m c).ren σ = mO m c := by rw [mO, AO.ren, BQ']
theorem DL' (K : Nat -> Bool) (m : KM) (c : Nat) : (mO m c).cl K := ZN' (α := Δ) K vs' enV (fun _ => ⟨Ye, Ye⟩) m
theorem BT' {es : List (AV × AV × Nat)} {c' : Nat} {m : KM} {σ : Nat -> Nat} (h : es = kM m) (hc : c = c') : OW (.map es c) ((mO m c').ren σ) := by rw [mO_ren]; subst h hc; exact Yc
theorem YU' (k : Δ) (m : KM) (c : Nat) : OW (.map (delE (.v (.string k)) (kM m)) c) (.map (kM (kdel m k)) c) := by rw [del_m]; exact Yc
theorem YT' (k v : Δ) (m : KM) (c : Nat) : OW (.map (setE (.v (.string k)) (.agg [.v (.string v)]) (kM m) c) (GC' (.v (.string k)) (kM m) c)) (.map (kM (kset m c k v)) (HA' m c k)) := by rw [set_m, bump_m]; exact Yc
theorem ay_tri {s : St} (h : s.OK) (x : Chg) (hb : s.b + szC x <= C8') : Tri Θ default fAy [.ptr 0 0, chA x] (oSt s) (.tuple []) (oSt (ap1 s x)) := by
 obtain ⟨k, v, d⟩ := x; obtain ⟨m, c, b⟩ := s; have hb : b + (k.size + v.size) <= C8' := hb; have hby : b = byB m := h.by_
 cases hl : B5' k m with
 | some old =>
  have hle : k.size + old.size <= b := by have := S1' hl; omega
  have hw1 : Wk (.v (.int .i64 (IntKind.i64.wrap (o' b - IntKind.i64.wrap ((k.size : Int) + (old.size : Int)))))) (.v (.int .i64 (o' (b - (k.size + old.size))))) := w_sub ω hle; have hlk := O2' (z := .agg #[.string ⟨#[]⟩]) hl
  cases d with
  | true =>
   have e : ap1 ⟨m, c, b⟩ ⟨k, v, true⟩ = ⟨kdel m k, c, b - (k.size + old.size)⟩ := by show off _ _ = _; rw [off]; simp only [hl]
   rw [e]
   refine AF' (con := []) (hints := A6' (hf' fAy 5 2 :: hAyY old (o' (b - (k.size + old.size))) (kdel m k) c)) (lc := []) kAy rfl (fun _ _ => noC) (fun F _ => noL) fun F => ?_
   refine Yj (X3' m (kdel m k) c (o' b) (o' (b - (k.size + old.size))) k v old F) ⟨⟨?_, (AO' (vs' := [.tuple []]) (H' := oSt ⟨kdel m k, c, b - (k.size + old.size)⟩) [] χ χ (Yb) ⟨⟨_, rfl, Yc⟩, ⟨_, rfl, BT' rfl rfl⟩, Ye⟩).fits rfl⟩⟩
   simp only [ch', bl', true_and, and_true]; and_intros; all_goals first | (with_reducible exact Ye) | (with_reducible exact rfl) | (with_reducible exact Ya) | (with_reducible exact Yb) | (with_reducible exact Yc) | (with_reducible exact AT' _) | (with_reducible assumption) | exact fk_m _ _ _ | exact hlk | exact hw1 | exact YU' _ _ _ | exact Kc4'
  | false =>
   have e : ap1 ⟨m, c, b⟩ ⟨k, v, false⟩ = ⟨kset (kdel m k) c k v, HA' (kdel m k) c k, b - (k.size + old.size) + (k.size + v.size)⟩ := by show onn (off _ _) _ = _; rw [off]; simp only [hl]; rfl
   have hw2 : Wk (.v (.int .i64 (IntKind.i64.wrap (o' (b - (k.size + old.size)) + IntKind.i64.wrap ((k.size : Int) + (v.size : Int)))))) (.v (.int .i64 (o' (b - (k.size + old.size) + (k.size + v.size))))) := w_add ω; rw [e]
   refine AF' (con := []) (hints := A6' (ht' fAy 5 2 :: (hAyY old (o' (b - (k.size + old.size))) (kdel m k) c ++ hAyS (o' (b - (k.size + old.size) + (k.size + v.size))) (kset (kdel m k) c k v) (HA' (kdel m k) c k)))) (lc := []) kAy rfl (fun _ _ => noC) (fun F _ => noL) fun F => ?_
   refine Yj (X4' m (kdel m k) (kset (kdel m k) c k v) c (HA' (kdel m k) c k) (o' b) (o' (b - (k.size + old.size))) (o' (b - (k.size + old.size) + (k.size + v.size))) k v old F) ⟨⟨?_, (AO' (vs' := [.tuple []]) (H' := oSt ⟨kset (kdel m k) c k v, HA' (kdel m k) c k, b - (k.size + old.size) + (k.size + v.size)⟩) [] χ χ (Yb) ⟨⟨_, rfl, Yc⟩, ⟨_, rfl, BT' rfl rfl⟩, Ye⟩).fits rfl⟩⟩
   simp only [ch', bl', true_and, and_true]; and_intros; all_goals first | (with_reducible exact Ye) | (with_reducible exact rfl) | (with_reducible exact Ya) | (with_reducible exact Yb) | (with_reducible exact Yc) | (with_reducible exact AT' _) | (with_reducible assumption) | exact fk_m _ _ _ | exact st_m _ _ | exact hlk | exact hw1 | exact hw2 | exact YU' _ _ _ | exact YT' _ _ _ _ | exact Kc4'
 | none =>
  have hlk := O3' hl
  cases d with
  | true =>
   have e : ap1 ⟨m, c, b⟩ ⟨k, v, true⟩ = ⟨m, c, b⟩ := by show off _ _ = _; rw [off]; simp only [hl]
   rw [e]
   refine AF' (con := []) (hints := A6' (hf' fAy 5 2 :: hAyN)) (lc := []) kAy rfl (fun _ _ => noC) (fun F _ => noL) fun F => ?_
   refine Yj (X5' m c (o' b) k v F) ⟨⟨?_, (AO' (vs' := [.tuple []]) (H' := oSt ⟨m, c, b⟩) [] χ χ (Yb) ⟨⟨_, rfl, Yc⟩, ⟨_, rfl, BT' rfl rfl⟩, Ye⟩).fits rfl⟩⟩
   simp only [ch', bl', true_and, and_true]; and_intros; all_goals first | (with_reducible exact Ye) | (with_reducible exact rfl) | (with_reducible exact Ya) | (with_reducible exact Yb) | (with_reducible exact Yc) | (with_reducible exact AT' _) | (with_reducible assumption) | exact fk_m _ _ _ | exact hlk | exact Kc4'
  | false =>
   have e : ap1 ⟨m, c, b⟩ ⟨k, v, false⟩ = ⟨kset m c k v, HA' m c k, b + (k.size + v.size)⟩ := by show onn (off _ _) _ = _; rw [off]; simp only [hl]; rfl
   have hw2 : Wk (.v (.int .i64 (IntKind.i64.wrap (o' b + IntKind.i64.wrap ((k.size : Int) + (v.size : Int)))))) (.v (.int .i64 (o' (b + (k.size + v.size))))) := w_add hb; rw [e]
   refine AF' (con := []) (hints := A6' (ht' fAy 5 2 :: (hAyN ++ hAyS (o' (b + (k.size + v.size))) (kset m c k v) (HA' m c k)))) (lc := []) kAy rfl (fun _ _ => noC) (fun F _ => noL) fun F => ?_
   refine Yj (X6' m (kset m c k v) c (HA' m c k) (o' b) (o' (b + (k.size + v.size))) k v F) ⟨⟨?_, (AO' (vs' := [.tuple []]) (H' := oSt ⟨kset m c k v, HA' m c k, b + (k.size + v.size)⟩) [] χ χ (Yb) ⟨⟨_, rfl, Yc⟩, ⟨_, rfl, BT' rfl rfl⟩, Ye⟩).fits rfl⟩⟩
   simp only [ch', bl', true_and, and_true]; and_intros; all_goals first | (with_reducible exact Ye) | (with_reducible exact rfl) | (with_reducible exact Ya) | (with_reducible exact Yb) | (with_reducible exact Yc) | (with_reducible exact AT' _) | (with_reducible assumption) | exact fk_m _ _ _ | exact st_m _ _ | exact hlk | exact hw2 | exact YT' _ _ _ _ | exact Kc4'
theorem ad_blk (a : Addr) (n : Nat) : (a.add n).block = a.block := by unfold Addr.add; split <;> rfl
theorem ad_off (a : Addr) (n : Nat) : (a.add n).off = a.off + n := by
 unfold Addr.add; split
 ·rename_i h; subst h; rfl
 ·rfl
theorem ZY' (a : Addr) (m n : Nat) (h : 0 < n) : Addr.mk (a.add m).block ((a.add m).off + n) none = a.add (m + n) := by
 rw [ad_blk, ad_off]
 conv => rhs; unfold Addr.add
 rw [if_neg ω, Nat.add_assoc]
structure LdC (W : World) (a : Addr) (i : Nat) (x : Chg) : Prop where
 c0 : W.cell? ((a.add (i * 3)).add 0) = some (.string x.k)
 c1 : W.cell? (Addr.mk (a.add (i * 3)).block ((a.add (i * 3)).off + 1) none) = some (.string x.v)
 c2 : W.cell? (Addr.mk (a.add (i * 3)).block ((a.add (i * 3)).off + 2) none) = some (.bool x.d)
theorem CAt.ld {oa : Option Addr} {l : List Chg} (h : CAt W oa l) {x : Chg} (hx : l[i]? = some x) : ∃ a, oa = some a /\ LdC W a i x := by
 obtain ⟨a, ha, hc⟩ := h.at' i x hx; refine ⟨a, ha, ?_, ?_, ?_⟩
 ·have := hc 0 (.string x.k) rfl; exact this
 ·rw [ZY' _ _ _ ω]; exact hc 1 (.string x.v) rfl
 ·rw [ZY' _ _ _ ω]; exact hc 2 (.bool x.d) rfl
theorem LdC.all {a : Addr} {x : Chg} (h : LdC W a i x) : ([0, 1, 2].all fun j => (W.cell? ((a.add (i * 3)).add j)).isSome) = true := by
 have e1 : (a.add (i * 3)).add 1 = Addr.mk (a.add (i * 3)).block ((a.add (i * 3)).off + 1) none := rfl; have e2 : (a.add (i * 3)).add 2 = Addr.mk (a.add (i * 3)).block ((a.add (i * 3)).off + 2) none := rfl; simp only [List.all_cons, List.all_nil, e1, e2, h.c0, h.c1, h.c2, Option.isSome_some, Bool.and_true]
def ckS : List Chg -> Nat
 | [] => 0
 | x :: l => (match x.d with | true => x.k.size | false => x.k.size + x.v.size) + ckS l
theorem ZO' : ∀ l : List Chg, ckS l <= szL l
 | [] => Yd
 | x :: l => by
  have := ZO' l; rw [ckS, D8', szC]
  cases x.d <;> simp only <;> omega
theorem RW' : ∀ (l : List Chg) (x : Chg), ckS (l ++ [x]) = ckS l + (match x.d with | true => x.k.size | false => x.k.size + x.v.size)
 | [], x => by simp [ckS]
 | y :: l, x => by rw [List.cons_append, ckS, ckS, RW' l x, Nat.add_assoc]
theorem HM' (l : List Chg) (i : Nat) : szL (l.take i) <= szL l := by
 have := congrArg szL (List.take_append_drop i l); rw [JW'] at this; omega
theorem PI' {s k : Nat} (h : s + k <= C8') : Wk (.v (.int .i64 (IntKind.i64.wrap (o' s + (k : Int))))) (.v (.int .i64 (o' (s + k)))) := by
 unfold C8' at h; rw [IntWalk.i64_in _ (by simp only [Z0]; omega)]; exact C6' (by simp only [Z0]; omega)
theorem Y3' (W : World) (oa : Option Addr) (c : Nat) (l : List Chg) (h : CAt W oa l) (hs : szL l <= C8') :
  LTri Θ W (A3' fCk 3) (tms 0 51 (aCk1 oa l.length c 0 0)) [] (.exit 0) (tms 0 51 [(0, slV oa l.length c), (2, iv 0), (3, iv (o' (ckS l)))]) [] := by
 refine B6' (W := W) (g := fCk) (b := A3' fCk 3) (σ := {i : Nat // i <= l.length}) 51 (fun i => aCk1 oa l.length c (o' (ckS (l.take i.1))) i.1) (fun _ => []) (.exit 0) [(0, slV oa l.length c), (2, iv 0), (3, iv (o' (ckS l)))] [] (fun i => l.length - i.1) [] XO' (by intro h; cases h) (fun i => rfl) rfl ?_ ⟨0, Nat.zero_le _⟩
 rintro ⟨i, hi⟩; simp only; have hlen := h.len
 by_cases h1 : i < l.length
 ·obtain ⟨x, hx⟩ := AY' h1; obtain ⟨a, rfl, hL⟩ := h.ld hx; have hsn := B0' hx
  have hck : ckS (l.take (i + 1)) = ckS (l.take i) + (match x.d with | true => x.k.size | false => x.k.size + x.v.size) := by rw [hsn, RW']
  have hle : ckS (l.take (i + 1)) <= C8' := Nat.le_trans (Nat.le_trans (ZO' _) (HM' _ _)) hs; have hall := hL.all; have c0 := hL.c0; have c1 := hL.c1; have c2 := hL.c2; clear hL hx hsn; obtain ⟨k, v, d⟩ := x; simp only at c0 c1 c2 hck; have e1 : Wk (.v (.bool (decide (o' i < o' l.length)))) (.lit true) := A2' (ltTN h1); have e3 : Wk (.v (.int .i64 (IntKind.i64.wrap (o' i + o' 1)))) (.v (.int .i64 (o' (i + 1)))) := C6' (B8' i ω)
  generalize hs0 : ckS (l.take i) = s at *
  cases d with
  | true =>
   simp only at hck; have e2 := PI' (s := s) (k := k.size) ω
   refine ⟨[], hCk1 k v true (o' (s + k.size)) (o' (s + k.size)) i, [], fun _ _ => noC, fun _ _ => noL, fun F => ?_⟩
   refine Yj (WY' W a l.length c i (o' s) (o' (s + k.size)) k v F) ⟨⟨?_, rfl, .inl ⟨rfl, ⟨i + 1, h1⟩, B1' h1, [], by simp only [hck]; exact ⟨χ, by kernel_rfl, ⟨Ya, Ya, Ya, Ya, Ya, Ya, Ye⟩, Ye⟩⟩⟩⟩
   exact Cc10'
  | false =>
   simp only at hck; have e2 := PI' (s := s) (k := k.size) ω; have e4 := PI' (s := s + k.size) (k := v.size) ω
   refine ⟨[], hCk1 k v false (o' (s + k.size)) (o' (s + k.size + v.size)) i, [], fun _ _ => noC, fun _ _ => noL, fun F => ?_⟩
   refine Yj (WW' W a l.length c i (o' s) (o' (s + k.size)) (o' (s + k.size + v.size)) k v F) ⟨⟨?_, rfl, .inl ⟨rfl, ⟨i + 1, h1⟩, B1' h1, [], by simp only [hck, <- Nat.add_assoc]; exact ⟨χ, by kernel_rfl, ⟨Ya, Ya, Ya, Ya, Ya, Ya, Ye⟩, Ye⟩⟩⟩⟩
   exact Cc10'
 ·have hie : i = l.length := ω
  subst hie; rw [List.take_of_length_le (Yd)]
  refine ⟨[], A6' [hf' fCk 3 0], [], fun _ _ => noC, fun _ _ => noL, fun F => ?_⟩
  refine Yj (WX' W oa l.length c l.length (o' (ckS l)) F) ⟨⟨?_, rfl, .inr ⟨rfl, [], by kernel_rfl, by kernel_rfl, ⟨Ya, Ya, Ya, Ye⟩, Ye⟩⟩⟩
  simp only [ch', and_true]; exact A2' (ltFN (Yd))
theorem bl_eq (a b : Δ) : (a.toList == b.toList) = decide (a = b) := by
 by_cases h : a = b
 ·subst h; rw [decide_eq_true rfl]; exact beq_self_eq_true _
 ·rw [decide_eq_false h, beq_eq_false_iff_ne]; intro e; rw [Lib.toList_data, Lib.toList_data] at e; exact h (congrArg bsOf e)
theorem TF' (k : Δ) : Wk (.v (.bool (k.toList == []))) (.lit (k.size == 0)) := by
 have e : (k.toList == (ByteArray.mk #[]).toList) = (k.size == 0) := by
  rw [bl_eq]
  by_cases h : k.size = 0
  ·have : k = ByteArray.mk #[] := ByteArray.ext (Array.eq_empty_of_size_eq_zero h); rw [decide_eq_true this, h]; rfl
  ·have : k ≠ ByteArray.mk #[] := fun e => h (by rw [e]; rfl)
   rw [decide_eq_false this]; exact (by simpa using h : (k.size == 0) = false).symm
 have z : Wk (.v (.bool (k.toList == (ByteArray.mk #[]).toList))) (.lit (k.size == 0)) := A2' e
 have e2 : (ByteArray.mk #[]).toList = [] := by rw [Lib.toList_data]
 rw [e2] at z; exact z
theorem PJ' (k : Δ) : Wk (.v (.bool (decide ((k.size : Int) > o' 255)))) (.lit (!(decide (k.size <= 255)))) := by
 refine A2' ?_
 by_cases h : k.size <= 255
 ·rw [decide_eq_true h, decide_eq_false (by simp only [Z0]; omega)]; rfl
 ·rw [decide_eq_false h, decide_eq_true (by simp only [Z0]; omega)]; rfl
theorem KM' (h : MK' k = true) : (k.size == 0) = false /\ (!(decide (k.size <= 255))) = false := by
 rw [MK', Bool.and_eq_true] at h
 exact ⟨by simpa using h.1, by rw [h.2]; rfl⟩
theorem Y2' (W : World) (oa : Option Addr) (c : Nat) (l : List Chg) (h : CAt W oa l) (hk : okL l = true) :
  LTri Θ W (A3' fCk 12) (tms 0 51 (aCk2 oa l.length c 0)) [] (.exit 2) (tms 0 51 []) [] := by
 refine B6' (W := W) (g := fCk) (b := A3' fCk 12) (σ := {i : Nat // i <= l.length}) 51 (fun i => aCk2 oa l.length c i.1) (fun _ => []) (.exit 2) [] [] (fun i => l.length - i.1) [] SR' (by intro h; cases h) (fun i => rfl) rfl ?_ ⟨0, Nat.zero_le _⟩; rintro ⟨i, hi⟩; simp only; have hlen := h.len
 by_cases h1 : i < l.length
 ·obtain ⟨x, hx⟩ := AY' h1; obtain ⟨a, rfl, hL⟩ := h.ld hx; have hall := hL.all; have c0 := hL.c0; have c1 := hL.c1; have c2 := hL.c2; have hg : MK' x.k = true := List.all_eq_true.1 hk x (List.mem_of_getElem? hx); clear hL hx; obtain ⟨k, v, d⟩ := x; simp only at c0 c1 c2 hg; obtain ⟨g1, g2⟩ := KM' hg; have e1 : Wk (.v (.bool (decide (o' i < o' l.length)))) (.lit true) := A2' (ltTN h1); have e3 : Wk (.v (.int .i64 (IntKind.i64.wrap (o' i + o' 1)))) (.v (.int .i64 (o' (i + 1)))) := C6' (B8' i ω); have w1 := TF' k; have w2 := PJ' k; rw [g1] at w1; rw [g2] at w2
  refine ⟨[], hCk2 k v d false false i, [], fun _ _ => noC, fun _ _ => noL, fun F => ?_⟩
  refine Yj (RD' W a l.length c i k v d F) ⟨⟨?_, rfl, .inl ⟨rfl, ⟨i + 1, h1⟩, B1' h1, [], by kernel_rfl, by kernel_rfl, ⟨Ya, Ya, Ya, Ya, Ye⟩, Ye⟩⟩⟩
  exact Cc11'
 ·have hie : i = l.length := ω
  subst hie
  refine ⟨[], A6' [hf' fCk 12 0], [], fun _ _ => noC, fun _ _ => noL, fun F => ?_⟩
  refine Yj (WV' W oa l.length c l.length F) ⟨⟨?_, rfl, .inr ⟨rfl, [], by kernel_rfl, by kernel_rfl, Ye, Ye⟩⟩⟩
  simp only [ch', and_true]; exact A2' (ltFN (Yd))
theorem OP' : ∀ {l : List Chg}, okL l = false -> ∃ (j : Nat) (x : Chg), l[j]? = some x /\ MK' x.k = false /\ ∀ (i : Nat) (y : Chg), i < j -> l[i]? = some y -> MK' y.k = true
 | [], h => by cases h
 | x :: l, h => by
  cases hx : MK' x.k with
  | false => exact ⟨0, x, rfl, hx, fun i y hi => absurd hi (Nat.not_lt_zero _)⟩
  | true =>
   have h2 : okL l = false := by
    rw [okL, List.all_cons, hx, Bool.true_and] at h; exact h
   obtain ⟨j, y, h3, h4, h5⟩ := OP' h2
   refine ⟨j + 1, y, h3, h4, fun i z hi hz => ?_⟩
   cases i with
   | zero => cases hz; exact hx
   | succ i => exact h5 i z ω hz
theorem gN' (W : World) (oa : Option Addr) (c : Nat) (l : List Chg) (h : CAt W oa l) (hk : okL l = false) :
  LTri Θ W (A3' fCk 12) (tms 0 51 (aCk2 oa l.length c 0)) [] .ret (tms 0 51 [(2, iv 130)]) [] := by
 obtain ⟨j, xj, hj, hbad, hgood⟩ := OP' hk; have hjl : j < l.length := (List.getElem?_eq_some_iff.1 hj).1; refine B6' (W := W) (g := fCk) (b := A3' fCk 12) (σ := {i : Nat // i <= j}) 51 (fun i => aCk2 oa l.length c i.1) (fun _ => []) .ret [(2, iv 130)] [] (fun i => l.length - i.1) [] SR' (by intro h; cases h) (fun i => rfl) rfl ?_ ⟨0, Nat.zero_le _⟩; rintro ⟨i, hi⟩; simp only; have hlen := h.len
 have h1 : i < l.length := ω
 obtain ⟨x, hx⟩ := AY' h1; obtain ⟨a, rfl, hL⟩ := h.ld hx; have hall := hL.all; have c0 := hL.c0; have c1 := hL.c1; have c2 := hL.c2; have e1 : Wk (.v (.bool (decide (o' i < o' l.length)))) (.lit true) := A2' (ltTN h1); have e3 : Wk (.v (.int .i64 (IntKind.i64.wrap (o' i + o' 1)))) (.v (.int .i64 (o' (i + 1)))) := C6' (B8' i ω)
 by_cases hij : i < j
 ·have hg : MK' x.k = true := hgood i x hij hx; clear hL hx; obtain ⟨k, v, d⟩ := x; simp only at c0 c1 c2 hg; obtain ⟨g1, g2⟩ := KM' hg; have w1 := TF' k; have w2 := PJ' k; rw [g1] at w1; rw [g2] at w2
  refine ⟨[], hCk2 k v d false false i, [], fun _ _ => noC, fun _ _ => noL, fun F => ?_⟩
  refine Yj (RD' W a l.length c i k v d F) ⟨⟨?_, rfl, .inl ⟨rfl, ⟨i + 1, hij⟩, B1' h1, [], by kernel_rfl, by kernel_rfl, ⟨Ya, Ya, Ya, Ya, Ye⟩, Ye⟩⟩⟩
  exact Cc11'
 ·have hie : i = j := ω
  subst hie; have hxx : xj = x := Option.some.inj (hj.symm.trans hx); subst hxx; clear hL hx hj; obtain ⟨k, v, d⟩ := xj; simp only at c0 c1 c2 hbad; have w1 := TF' k; have w2 := PJ' k
  cases hz : (k.size == 0) with
  | true =>
   rw [hz] at w1
   refine ⟨[], hCk2 k v d true false i, [], fun _ _ => noC, fun _ _ => noL, fun F => ?_⟩
   refine Yj (WT' W a l.length c i k v d F) ⟨⟨?_, rfl, .inr ⟨rfl, [], by kernel_rfl, by kernel_rfl, ⟨Ya, Ye⟩, Ye⟩⟩⟩
   exact Cc12'
  | false =>
   rw [hz] at w1
   have hl2 : (!(decide (k.size <= 255))) = true := by
    rw [MK', hz] at hbad; simpa using hbad
   rw [hl2] at w2
   refine ⟨[], hCk2 k v d false true i, [], fun _ _ => noC, fun _ _ => noL, fun F => ?_⟩
   refine Yj (WU' W a l.length c i k v d F) ⟨⟨?_, rfl, .inr ⟨rfl, [], by kernel_rfl, by kernel_rfl, ⟨Ya, Ye⟩, Ye⟩⟩⟩
   exact Cc12'
theorem fR' {oa : Option Addr} {l : List Chg} (h : CAt W oa l) (hs : szL l <= C8') (F : HP) (hF : AH' W F) : L1OK Θ F (A3' fCk 3) (lCk1 oa l.length c (o' (ckS l))) :=
 BV' hF (fun _ => RO.ret _) (fun _ _ => Y3' W oa c l h hs) fun _ => by
  simp only [RT.pick]; exact BD' rfl rfl (A0' Ye (A0' Ye (A0' Ye (A0' Ye (A0' Ye (A0' Ye A1')))))) A1' (A0' Ye (A0' Ye (A0' Ye A1'))) A1'
theorem fQ' {oa : Option Addr} {l : List Chg} (h : CAt W oa l) (hk : okL l = true) (F : HP) (hF : AH' W F) : L1OK Θ F (A3' fCk 12) (lCk2 oa l.length c) :=
 BV' hF (fun _ => RO.ret _) (fun _ _ => Y2' W oa c l h hk) fun _ => by
  simp only [RT.pick]; exact BD' rfl rfl (A0' Ye (A0' Ye (A0' Ye (A0' Ye A1')))) A1' A1' A1'
theorem XM' {oa : Option Addr} {l : List Chg} (h : CAt W oa l) (hk : okL l = false) (F : HP) (hF : AH' W F) : L1OK Θ F (A3' fCk 12) (UJ' oa l.length c) :=
 BV' hF (fun _ => RO.ret _) (fun _ _ => gN' W oa c l h hk) fun _ => by
  simp only [RT.pick]; exact BD' rfl rfl (A0' Ye (A0' Ye (A0' Ye (A0' Ye A1')))) A1' (A0' Ye A1') A1'
theorem R8' (l : List Chg) : (rowV chV l).length = l.length * 3 := BP' (k := 3) chV_len l
theorem K9' (K : Nat -> Bool) (l : List Chg) : (rC l).cl K := RS' _ _
theorem rC_ren (σ : Nat -> Nat) (l : List Chg) : (rC l).ren σ = rC l := by simp only [rC, AO.ren, A5']
theorem IH' {x : List AV} {l : List Chg} {e : TypeId} {σ : Nat -> Nat} (h : x = rowV chV l) (he : e = tCh) : OW (.cells x e) ((rC l).ren σ) := by rw [rC_ren]; subst h he; exact Yc
theorem G2' : ∀ l : List Chg, rowV chV l = l.flatMap fun x => [sv x.k, sv x.v, bv x.d] := fun l => by
 unfold rowV
 induction l with
 | nil => rfl
 | cons x l ih => rw [List.flatMap_cons, List.flatMap_cons, <- ih]; rfl
theorem K7' : ∀ (l : List Chg) (i j : Nat) (x : Chg), l[i]? = some x -> j < 3 -> ∀ d, (rowV chV l).getD (i * 3 + j) d = (vmap (chV x)).getD j d
 | [], i, j, x, h, _, d => by simp at h
 | y :: l, 0, j, x, h, hj, d => by
  cases h; rw [G2', List.flatMap_cons, Nat.zero_mul, Nat.zero_add]
  match j, hj with
  | 0, _ => rfl
  | 1, _ => rfl
  | 2, _ => rfl
 | y :: l, i + 1, j, x, h, hj, d => by
  have ih := K7' l i j x h hj d; rw [G2'] at ih ⊢
  rw [List.flatMap_cons, show (i + 1) * 3 + j = (i * 3 + j) + 3 from ω]
  exact ih
theorem b7' : ∀ {W : World} {a : Addr} {l : List Chg}, (∀ (i : Nat) (x : Chg), l[i]? = some x -> ∀ (j : Nat) (v : Value), (chV x)[j]? = some v -> W.cell? (a.add (i * 3 + j)) = some v) ->
  ((List.range (l.length * 3)).all fun j => (W.cell? (a.add j)).isSome) = true /\ vmap (AM' W a (l.length * 3)) = rowV chV l := by
 intro W a l h
 have hc : ∀ n, n < l.length * 3 -> ∃ v, W.cell? (a.add n) = some v /\ (rowV chV l).getD n AV.undef = .v v := fun n hn => by
  obtain ⟨x, hx⟩ := AY' (l := l) (i := n / 3) ω; have hj : n % 3 < 3 := Nat.mod_lt _ δ
  have e : n / 3 * 3 + n % 3 = n := ω
  have hv : ∃ v, (chV x)[n % 3]? = some v := ⟨_, List.getElem?_eq_getElem (by rw [chV_len]; exact hj)⟩; obtain ⟨v, hv⟩ := hv
  refine ⟨v, by have := h _ x hx _ v hv; rwa [e] at this, ?_⟩
  have := K7' l (n / 3) (n % 3) x hx hj AV.undef; rw [e] at this; rw [this, vmap, List.getD_eq_getElem?_getD, List.getElem?_map, hv]; rfl
 refine ⟨List.all_eq_true.2 fun n hn => ?_, ?_⟩
 ·obtain ⟨v, hv, _⟩ := hc n (List.mem_range.1 hn); rw [hv]; rfl
 ·refine List.ext_getElem (by simp [vmap, AM', R8']) fun n h1 h2 => ?_
  have hn : n < l.length * 3 := by rw [R8'] at h2; exact h2
  obtain ⟨v, hv, hg⟩ := hc n hn; rw [List.getD_eq_getElem?_getD, List.getElem?_eq_getElem h2, Option.getD_some] at hg; rw [hg]; simp [vmap, AM', hv]
theorem one_rC (l : List Chg) : (rowV chV l).all AV.one = true := by
 rw [G2']
 induction l with
 | nil => rfl
 | cons x l ih => rw [List.flatMap_cons, List.all_append, ih]; rfl
theorem cc_tri (W : World) (oa : Option Addr) (c : Nat) (l : List Chg) (h : CAt W oa l) (hp : 0 < l.length) : Tri Θ W fCC [slV oa l.length c] [] (sC 1000 l.length) [(1000, rC l)] := by
 obtain ⟨x, hx⟩ := AY' (l := l) hp; obtain ⟨a, rfl, _⟩ := h.at' 0 x hx; have hlen := h.len
 obtain ⟨b2, b3⟩ := b7' (W := W) (a := a) (l := l) fun i y hy j v hv => by
  obtain ⟨a9, e, q⟩ := h.at' i y hy; cases e; exact q j v hv
 have b1 : l.length.ble l.length = true := AL' (Yd)
 have b4 : (vmap (AM' W a (l.length * 3))).all AV.one = true := by rw [b3]; exact one_rC l
 have b5 : ((0 + l.length) * 40).ble 140737488355328 = true := AL' ω; have b6 : (0 + l.length).ble 9223372036854775807 = true := AL' ω
 have b8 : 0 < 0 + l.length := ω
 refine AF' (con := []) (hints := A6' [hf' fCC 1 1]) (lc := []) [1100, 1101, 1102, 1103] rfl (fun _ _ => noC) (fun F _ => noL) fun F => ?_
 refine Yj (oCC_eq W a l.length c F) ⟨⟨?_, (AO' (vs' := [sC 1000 l.length]) (H' := [(1000, rC l)]) [(1000, 1101)] rfl rfl (by rw [Nat.zero_add]; exact Yb) ⟨⟨_, rfl, by rw [List.nil_append]; exact IH' b3 rfl⟩, Ye⟩).fits rfl⟩⟩; simp only [ch', bl', true_and, and_true]; exact ⟨AT' _, b1, b2, b4, hp, b5, b6, b8⟩
theorem mc_tri (m : KM) (c : Nat) : Tri Θ default fMC [.map 0] [(0, mO m c)] (.map 1000) [(0, mO m c), (1000, mO m c)] := by
 refine W9' (con := []) (hints := A6' [hf' fMC 1 1]) (lc := []) [0, 1100, 1101, 1102] rfl (fun _ _ => noC) (fun F _ => noL) fun F => ?_
 refine Yj (oMC_eq m c F) ⟨⟨?_, (AO' (vs' := [.map 1000]) (H' := [(0, mO m c), (1000, mO m c)]) [(1000, 1100)] χ χ (Yb) ⟨⟨_, rfl, BT' rfl rfl⟩, ⟨_, rfl, BT' rfl rfl⟩, Ye⟩).fits rfl⟩⟩; simp only [ch', true_and, and_true]; exact AT' _
def mdS (l : List Chg) (i : Nat) : List Chg := (l.take i).map BZ' ++ l.drop i
theorem fK' (l : List Chg) : mdS l l.length = l.map BZ' := by rw [mdS, List.take_length, List.drop_length, List.append_nil]
theorem fI' (l : List Chg) (i : Nat) : (mdS l i).length = l.length := by
 rw [mdS, la', List.length_map, <- la', List.take_append_drop]
theorem Z0' {l : List Chg} {x : Chg} (h : l[i]? = some x) : mdS l i = (l.take i).map BZ' ++ x :: l.drop (i + 1) /\ mdS l (i + 1) = (l.take i).map BZ' ++ BZ' x :: l.drop (i + 1) := by
 obtain ⟨hlt, he⟩ := List.getElem?_eq_some_iff.1 h; refine ⟨?_, ?_⟩
 ·rw [mdS, List.drop_eq_getElem_cons hlt, he]
 ·rw [mdS, B0' h, List.map_append, List.append_assoc]; rfl
theorem fJ' {l : List Chg} {x : Chg} (h : l[i]? = some x) : (mdS l i)[i]? = some x := by
 rw [(Z0' h).1]; obtain ⟨hlt, _⟩ := List.getElem?_eq_some_iff.1 h
 have e : ((l.take i).map BZ').length = i := by rw [List.length_map, List.length_take]; omega
 rw [List.getElem?_append_right ω, e, Nat.sub_self]; rfl
theorem aE' (A B : List Chg) (x : Chg) (v : Δ) : splice (rowV chV (A ++ x :: B)) (0 + A.length * 3 + 1) [sv v] = rowV chV (A ++ ⟨x.k, v, x.d⟩ :: B) := by
 rw [Nat.zero_add]; have hA : (rowV chV A).length = A.length * 3 := R8' A
 have e : ∀ y : Chg, rowV chV (A ++ y :: B) = rowV chV A ++ ([sv y.k] ++ ([sv y.v] ++ ([bv y.d] ++ rowV chV B))) := fun y => by
  rw [BY', G2' (y :: B), List.flatMap_cons, <- G2']; rfl
 rw [e, e, splice, <- hA]
 have h1 : List.take ((rowV chV A).length + 1) (rowV chV A ++ ([sv x.k] ++ ([sv x.v] ++ ([bv x.d] ++ rowV chV B)))) = rowV chV A ++ [sv x.k] := by
  rw [List.take_length_add_append]; rfl
 have h2 : List.drop ((rowV chV A).length + 1 + 1) (rowV chV A ++ ([sv x.k] ++ ([sv x.v] ++ ([bv x.d] ++ rowV chV B)))) = [bv x.d] ++ rowV chV B := by
  rw [Nat.add_assoc, List.drop_length_add_append]; rfl
 rw [show [sv v].length = 1 from rfl, h1, h2]; simp only [List.append_assoc]
theorem fH' (D : AO) (hD : ∀ σ : Nat -> Nat, OW D (D.ren σ)) (sz b0 : Int) (m0 : KM) (c0 : Nat) (l : List Chg) (hl : l.length <= 1048576) :
  LTri Θ default (A3' fCm 6) (tms 0 102 (aMd l.length 0)) (oMd D sz b0 m0 c0 l) (.exit 0) (tms 0 102 [(0, .ptr 0 0), (6, sC 1050 l.length)]) (oMd D sz b0 m0 c0 (l.map BZ')) := by
 have key := B6' (W := default) (g := fCm) (b := A3' fCm 6) (σ := {i : Nat // i <= l.length}) 102 (fun i => aMd l.length i.1) (fun i => oMd D sz b0 m0 c0 (mdS l i.1)) (.exit 0) [(0, .ptr 0 0), (6, sC 1050 l.length)] (oMd D sz b0 m0 c0 (l.map BZ')) (fun i => l.length - i.1) kMd ixMd (by intro h; cases h) (fun i => rfl) rfl; refine key ?_ ⟨0, Nat.zero_le _⟩; rintro ⟨i, hi⟩; simp only
 by_cases h1 : i < l.length
 ·obtain ⟨x, hx⟩ := AY' h1; obtain ⟨s1, s2⟩ := Z0' hx; have hg := K7' (mdS l i) i 2 x (fJ' hx) δ AV.undef
  have hg : (rowV chV (mdS l i)).getD (0 + i * 3 + 2) AV.undef = bv x.d := by rw [Nat.zero_add]; exact hg
  have hlen : (rowV chV (mdS l i)).length = l.length * 3 := by rw [R8', fI']
  have g1 : 0 + i * 3 + 2 < (rowV chV (mdS l i)).length := by rw [hlen]; omega
  have g2 : (0 + i * 3 + 1 + 1).ble (rowV chV (mdS l i)).length = true := by rw [hlen]; exact AL' ω
  have e1 : Wk (.v (.bool (decide (o' i < o' l.length)))) (.lit true) := A2' (ltTN h1); have e3 : Wk (.v (.int .i64 (IntKind.i64.wrap (o' i + o' 1)))) (.v (.int .i64 (o' (i + 1)))) := C6' (B8' i ω)
  have hA : ((l.take i).map BZ').length = i := by rw [List.length_map, List.length_take]; omega
  obtain ⟨k, v, d⟩ := x
  cases d with
  | true =>
   have g3 : OW (ce' (splice (rowV chV (mdS l i)) (0 + i * 3 + 1) [v' (vs' (ByteArray.mk (Array.mk [])))]) tCh) (ce' (rowV chV (mdS l (i + 1))) tCh) := by
    have := aE' ((l.take i).map BZ') (l.drop (i + 1)) ⟨k, v, true⟩ ⟨#[]⟩; rw [hA] at this; rw [s1, s2]; have e : BZ' ⟨k, v, true⟩ = ⟨k, ⟨#[]⟩, true⟩ := rfl; rw [e, <- this]; exact Yc
   generalize mdS l i = cur at *
   generalize hnx : mdS l (i + 1) = nxt at *
   refine ⟨[], A6' [ht' fCm 6 0, ht' fCm 8 4, (fCm, 9, 4, ho 1050 (rC nxt)), (fCm, 10, 0, hv (iv (o' (i + 1))))], [], fun _ _ => noC, fun _ _ => noL, fun F => ?_⟩
   refine Yj (e3' D sz b0 m0 c0 l.length i cur nxt F) ⟨⟨?_, rfl, .inl ⟨rfl, ⟨i + 1, h1⟩, B1' h1, [(1003, 1003), (1050, 1050)], by kernel_rfl, by kernel_rfl, ⟨Ya, Ya, Ya, Ya, Ye⟩, ⟨_, rfl, Yc⟩, ⟨_, rfl, Yc⟩, ⟨_, rfl, hD _⟩, ⟨_, rfl, BT' rfl rfl⟩, ⟨_, rfl, ?_⟩, Ye⟩⟩⟩
   ·exact Cc13'
   ·exact IH' (by rw [<- hnx]) rfl
  | false =>
   have e : mdS l (i + 1) = mdS l i := by rw [s1, s2]; rfl
   refine ⟨[], A6' [ht' fCm 6 0, hf' fCm 8 4, (fCm, 10, 0, hv (iv (o' (i + 1))))], [], fun _ _ => noC, fun _ _ => noL, fun F => ?_⟩
   refine Yj (e4' D sz b0 m0 c0 l.length i (mdS l i) F) ⟨⟨?_, rfl, .inl ⟨rfl, ⟨i + 1, h1⟩, B1' h1, [(1003, 1003), (1050, 1050)], by kernel_rfl, by kernel_rfl, ⟨Ya, Ya, Ya, Ya, Ye⟩, ⟨_, rfl, Yc⟩, ⟨_, rfl, Yc⟩, ⟨_, rfl, hD _⟩, ⟨_, rfl, BT' rfl rfl⟩, ⟨_, rfl, IH' (by rw [e]) rfl⟩, Ye⟩⟩⟩
   exact Cc13'
 ·have hie : i = l.length := ω
  subst hie
  refine ⟨[], A6' [hf' fCm 6 0], [], fun _ _ => noC, fun _ _ => noL, fun F => ?_⟩
  refine Yj (e5' D sz b0 m0 c0 l.length l.length (mdS l l.length) F) ⟨⟨?_, rfl, .inr ⟨rfl, [(1003, 1003), (1050, 1050)], by kernel_rfl, by kernel_rfl, ⟨Ya, Ya, Ye⟩, ⟨_, rfl, Yc⟩, ⟨_, rfl, Yc⟩, ⟨_, rfl, hD _⟩, ⟨_, rfl, BT' rfl rfl⟩, ⟨_, rfl, IH' (by rw [fK']) rfl⟩, Ye⟩⟩⟩
  simp only [ch', and_true]; exact A2' (ltFN (Yd))
theorem gAy_ro : ∀ args, RO (gAy args) := fun args => by
 unfold gAy; split
 ·refine RO.read _ _ fun o => ?_
  split <;> first | exact RO.ret _ | exact RO.fail _
 ·exact RO.fail _
theorem ZT' {s : St} (h : s.OK) (x : Chg) (hb : s.b + szC x <= C8') (F : HP) : C1OK Θ F fAy (cAy x.k x.v x.d (o' s.b) s.m s.c (o' (ap1 s x).b) (ap1 s x).m (ap1 s x).c) :=
 AU' (W := default) AZ' (fun _ => .tuple []) gAy_ro (fun _ => rfl) (fun _ _ => ay_tri h x hb) fun _ => ⟨rfl, rfl, ⟨rfl, ⟨Ye, Ye, Ye, Ye⟩, Ye⟩, A0' ⟨Ye, rfl, Ye, Ye⟩ (A0' (DL' _ _ _) A1'), ⟨Ye, Ye⟩, A0' ⟨Ye, rfl, Ye, Ye⟩ (A0' (DL' _ _ _) A1')⟩
def lpS (s : St) (l : List Chg) (i : Nat) : St := apL s (l.take i)
theorem fN' (D : AO) (hD : ∀ σ : Nat -> Nat, OW D (D.ren σ)) (sz b0 : Int) (m0 : KM) (c0 : Nat) (s : St) (h : s.OK) (l : List Chg) (hl : l.length <= 1048576) (hb : s.b + szL l <= C8') :
  LTri Θ default (A3' fCm 13) (tms 0 102 (aLp l.length 0)) (oLp D sz b0 m0 c0 l (o' s.b) s.m s.c) (.exit 2) (tms 0 102 [(0, .ptr 0 0), (6, sC 1050 l.length), (8, .ptr 1051 0)]) (oLp D sz b0 m0 c0 l (o' (apL s l).b) (apL s l).m (apL s l).c) := by
 have key := B6' (W := default) (g := fCm) (b := A3' fCm 13) (σ := {i : Nat // i <= l.length}) 102 (fun i => aLp l.length i.1) (fun i => oLp D sz b0 m0 c0 l (o' (lpS s l i.1).b) (lpS s l i.1).m (lpS s l i.1).c) (.exit 2) [(0, .ptr 0 0), (6, sC 1050 l.length), (8, .ptr 1051 0)] (oLp D sz b0 m0 c0 l (o' (apL s l).b) (apL s l).m (apL s l).c) (fun i => l.length - i.1) kLp ixLp (by intro h; cases h) (fun i => rfl) rfl; refine key ?_ ⟨0, Nat.zero_le _⟩; rintro ⟨i, hi⟩; simp only
 by_cases h1 : i < l.length
 ·obtain ⟨x, hx⟩ := AY' h1
  have hsn : lpS s l (i + 1) = ap1 (lpS s l i) x := by rw [lpS, lpS, B0' hx, apL, List.foldl_append]; rfl
  have hok : (lpS s l i).OK := P3' h _
  have hle : (lpS s l i).b + szC x <= C8' := by
   have q1 := (S5' h (l.take i)).1; have q2 := HM' l (i + 1); rw [B0' hx, JW', D8'] at q2; rw [lpS]; omega
  have hld : List.take 3 (List.drop (0 + i * 3) (rowV chV l)) = vmap (chV x) := by
   have := M7' chV_len [] l x i h1; rw [List.length_nil, Nat.zero_mul, List.nil_append] at this; rw [this]; simp [List.getD, hx]
  have e1 : Wk (.v (.bool (decide (o' i < o' l.length)))) (.lit true) := A2' (ltTN h1); have e3 : Wk (.v (.int .i64 (IntKind.i64.wrap (o' i + o' 1)))) (.v (.int .i64 (o' (i + 1)))) := C6' (B8' i ω)
  have q := fun F => ZT' hok x hle F
  rw [<- hsn] at q; obtain ⟨k, v, d⟩ := x
  have e5 : ∀ t : St, OW (AO.map (kM t.m) t.c) (AO.map (renE (nmAy (1051, 1052)) (kM t.m)) t.c) := fun t => by rw [BQ']; exact Yc
  have e4 := e5 (lpS s l i)
  generalize hn1 : lpS s l i = t at *
  generalize hn2 : lpS s l (i + 1) = u at *
  refine ⟨[(fAy, cAy k v d (o' t.b) t.m t.c (o' u.b) u.m u.c)], A6' [ht' fCm 13 0, (fCm, 14, 1, hv (.agg [sv k, sv v, bv d])), (fCm, 16, 0, hv (iv (o' (i + 1))))], [], fun F _ => BJ' (q F), fun _ _ => noL, fun F => ?_⟩
  refine Yj (oLp_eq D sz b0 m0 c0 l.length i l k v d (o' t.b) t.m t.c (o' u.b) u.m u.c F) ⟨⟨?_, rfl, .inl ⟨rfl, ⟨i + 1, h1⟩, B1' h1, [(1003, 1003), (1050, 1050), (1051, 1051), (1052, 1052)], by kernel_rfl, by kernel_rfl, ⟨Ya, Ya, Ya, Ya, Ya, Ya, Ye⟩, ⟨_, rfl, Yc⟩, ⟨_, rfl, Yc⟩, ⟨_, rfl, hD _⟩, ⟨_, rfl, BT' rfl rfl⟩, ⟨_, rfl, IH' rfl rfl⟩, ⟨_, rfl, by simp only [hn2]; exact Yc⟩, ⟨_, rfl, by simp only [hn2]; exact BT' (BQ' _ _) rfl⟩, Ye⟩⟩⟩
  simp only [ch', bl', hld, true_and, and_true]; and_intros; all_goals first | (with_reducible assumption) | (with_reducible exact Ye) | (with_reducible exact rfl) | (with_reducible exact Ya) | (with_reducible exact Yb) | (with_reducible exact Yc) | exact rfl | exact Ya | exact Yb
 ·have hie : i = l.length := ω
  subst hie
  have hE : lpS s l l.length = apL s l := by rw [lpS, List.take_length]
  rw [hE]
  refine ⟨[], A6' [hf' fCm 13 0], [], fun _ _ => noC, fun _ _ => noL, fun F => ?_⟩
  refine Yj (e8' D sz b0 m0 c0 l.length l.length l (o' (apL s l).b) (apL s l).m (apL s l).c F) ⟨⟨?_, rfl, .inr ⟨rfl, [(1003, 1003), (1050, 1050), (1051, 1051), (1052, 1052)], by kernel_rfl, by kernel_rfl, ⟨Ya, Ya, Ya, Ye⟩, ⟨_, rfl, Yc⟩, ⟨_, rfl, Yc⟩, ⟨_, rfl, hD _⟩, ⟨_, rfl, BT' rfl rfl⟩, ⟨_, rfl, IH' rfl rfl⟩, ⟨_, rfl, Yc⟩, ⟨_, rfl, BT' rfl rfl⟩, Ye⟩⟩⟩
  simp only [ch', and_true]; exact A2' (ltFN (Yd))
noncomputable section
abbrev fBi : Nat := 45
abbrev fLS : Nat := 46
def wHb (p : Nat) (x : Int) (l : Bs) : LH := [(0, .cells [sB 1001 p, iv x] tWr), (1001, rB l)]
abbrev k50' : Cnd := (ee' (i' 0))
theorem X0' (F : HP) : wRun [] (A6' [ht' fBi 0 4]) [] default fBi [.ptr 0 0, .lit false] [(0, wZ)] kNu F = VT.leaf (AV.tuple []) [some (ce' [AV.slice 1101 0 1 1 (Cp.lo 1),i' 1] 262),none,some (ce' [v' (vi' u8' (o' 0))] 10),some (ce' [v' (vi' u8' (o' 0))] 10),none,none] 1102 (k50'.a (h10' (k8'.a (h15' (k50'.a (k7'.a k1')))))) := χ
abbrev k51' : Cnd := (f' (Wk (v' (vi' u8' (o' 1))) (v' (vi' u8' (o' 1)))))
theorem WZ' (F : HP) : wRun [] (A6' [ht' fBi 0 4, (fBi, 4, 9, hv (iv 0)), (fBi, 4, 11, hv (byv 0)), (fBi, 4, 16, hv (byv 1)), (fBi, 4, 17, hv (byv 1))]) [] default fBi [.ptr 0 0, .lit true] [(0, wZ)] kNu F = VT.leaf (AV.tuple []) [some (ce' [AV.slice 1101 0 1 1 (Cp.lo 1),i' 1] 262),none,some (ce' [v' (vi' u8' (o' 0))] 10),some (ce' [v' (vi' u8' (o' 1))] 10),none,none] 1102 (k50'.a (h10' (k8'.a (h15' (h15' (k13'.a (k7'.a ((tt'.a ((p' (v' (vi' u8' (o' 0)) = v' (vi' u8' (o' 0)))).a (f' (Wk (v' (vi' u8' (o' 0))) (v' (vi' u8' (o' 0))))))).a (k50'.a (k51'.a (k51'.a (h15' (k50'.a (k7'.a k1')))))))))))))) := χ
abbrev k52' (q0 : Nat) (q1 q2 : Bs) : Cnd := (tt'.a (tt'.a (tt'.a (tt'.a ((p' ((0 + q0 * 1).ble (rowV encB q1).length = true)).a ((p' (((q0 + 1) * 1).ble 140737488355328 = true)).a ((p' ((q0 + 1).ble 9223372036854775807 = true)).a ((p' ((List.take (q0 * 1) (List.drop 0 (rowV encB q1))).length.beq (q0 * 1) = true)).a (f' (OW (ce' (List.take (q0 * 1) (List.drop 0 (rowV encB q1)) ++ [v' (vi' u8' (o' 0))]) 10) (ce' (rowV encB q2) 10)))))))))))
theorem X2' (p : Nat) (l l0 : Bs) (F : HP) : wRun [] (A6' [ht' fBi 0 4, (fBi, 1, 6, ho 1101 (rB l0))]) [] default fBi [.ptr 0 0, .lit false] (wH p l) kNu F = VT.leaf (AV.tuple []) [some (ce' [AV.slice 1101 0 (p + 1) 1 (Cp.lo (p + 1)),i' 1] 262),none,some (ce' [v' (vi' u8' (o' 0))] 10),some (ce' (rowV encB l0) 10),none,none] 1102 (k50'.a (h10' ((k52' p l l0).a (h15' (k50'.a (k7'.a k1')))))) := χ
theorem X1' (p : Nat) (l l0 l1 : Bs) (F : HP) : wRun [] (A6' [ht' fBi 0 4, (fBi, 1, 6, ho 1101 (rB l0)), (fBi, 4, 9, hv (iv (o' p))), (fBi, 4, 11, hv (byv 0)), (fBi, 4, 16, hv (byv 1)), (fBi, 4, 17, hv (byv 1)), (fBi, 4, 19, ho 1101 (rB l1))]) [] default fBi [.ptr 0 0, .lit true] (wH p l) kNu F = VT.leaf (AV.tuple []) [some (ce' [AV.slice 1101 0 (p + 1) 1 (Cp.lo (p + 1)),i' 1] 262),none,some (ce' [v' (vi' u8' (o' 0))] 10),some (ce' (rowV encB l1) 10),none,none] 1102 (k50'.a (h10' ((k52' p l l0).a (h15' (h15' ((f' (Wk (z' (IntKind.i64.wrap (↑(p + 1) - o' 1))) (i' p))).a ((f' (p.blt (p + 1) = true)).a (((p' ((0 + p * 1).blt (rowV encB l0).length = true)).a ((p' ((rowV encB l0).getD (0 + p * 1) (u') = v' (vi' u8' ((rowV encB l0).getD (0 + p * 1) (u')).intOf))).a (f' (Wk (v' (vi' u8' ((rowV encB l0).getD (0 + p * 1) (u')).intOf)) (v' (vi' u8' (o' 0))))))).a (k50'.a (k51'.a (k51'.a ((f' (p.blt (p + 1) = true)).a (((p' ((0 + p * 1 + 1).ble (rowV encB l0).length = true)).a (f' (OW (ce' (splice (rowV encB l0) (0 + p * 1) [v' (vi' u8' (o' 1))]) 10) (ce' (rowV encB l1) 10)))).a (k50'.a (k7'.a k1'))))))))))))))) := χ
abbrev k53' (q0 : Nat) (q1 : Bs) (q2 : Δ) (q3 : Nat) (q4 : Bs) (q5 : Nat) : Cnd := ((fe' true).a ((f' (Wk (i' 3) (i' 3))).a ((p' ((fNu,2,A3' fNu 2,lNu (wH q0 q1) q2.size (wH q3 q4)).snd.snd.fst = (fNu,2,A3' fNu 2,lNu (wH q0 q1) q2.size (wH q3 q4)).snd.snd.fst)).a ((p' True).a ((p' (VW (pt' 0 0::i' 4::z' ↑q2.size::u'::u'::u'::i' 3::pt' 0 0::pt' 0 0::pt' 0 1::i' 4::i' 3::ru16 (u'::u'::[])) (pt' 0 0::a'::i' q2.size::a'::a'::a'::i' 3::ra16 (ra4 (a'::a'::a'::[]))))).a ((ow' (ce' [AV.slice q5 0 q0 1 (Cp.lo q0),i' 0] 262)).a (f' (OW (ce' (rowV encB q1) 10) (ce' (AV.rens (fun q4 => q4) (rowV encB q1)) 10)))))))))
theorem e6' (p q : Nat) (x : Int) (l k : Bs) (s : Δ) (F : HP) : wRun [] (A6' [(fNu, 1, 1, hv (iv 3))]) [(fNu, 2, A3' fNu 2, lNu (wH p l) s.size (wH q k))] default fLS [.ptr 0 0, sv s] (wHb p x l) kNu F = VT.leaf (AV.tuple []) [some (ce' [AV.slice 1101 0 (q + s.size) 1 (Cp.lo (q + s.size)),i' 0] 262),none,none,some (ce' (List.take (q * 1) (List.drop 0 (AV.rens (sgN (fun k => k) [1001] 1100) (rowV encB k))) ++ vmap (List.map (fun b => vi' u8' ↑b.toNat) (List.take s.size s.data.toList))) 10),none,none] 1102 ((k53' p l s q k 1001).a (k7'.a (((p' (s.size.ble s.size = true)).a ((p' ((vmap (List.map (fun b => vi' u8' ↑b.toNat) (List.take s.size s.data.toList))).all AV.one = true)).a ((p' (Nat.blt 0 s.size = true)).a ((p' ((0 + q * 1).ble (AV.rens (sgN (fun k => k) [1001] 1100) (rowV encB k)).length = true)).a ((p' (((q + s.size) * 1).ble 140737488355328 = true)).a ((p' ((q + s.size).ble 9223372036854775807 = true)).a (f' ((List.take (q * 1) (List.drop 0 (AV.rens (sgN (fun k => k) [1001] 1100) (rowV encB k)))).length.beq (q * 1) = true)))))))).a (k7'.a k1')))) := χ
theorem e7' (p q : Nat) (x : Int) (l k : Bs) (s : Δ) (F : HP) : wRun [] (A6' [(fNu, 1, 1, hv (iv 3)), (fLS, 1, 6, h0)]) [(fNu, 2, A3' fNu 2, lNu (wH p l) s.size (wH q k))] default fLS [.ptr 0 0, sv s] (wHb p x l) kNu F = VT.leaf (AV.tuple []) [some (ce' [AV.slice 1100 0 q 1 (Cp.lo q),i' 0] 262),none,some (ce' (AV.rens (sgN (fun k => k) [1001] 1100) (rowV encB k)) 10),none,none,none] 1101 ((k53' p l s q k 1001).a (k7'.a ((f' (s.size = 0)).a (k7'.a k1')))) := χ
end
def bts (s : Δ) : Bs := s.data.toList
theorem HB' (s : Δ) : (bts s).length = s.size := rfl
def bitB (d : Bool) : UInt8 := match d with | true => 1 | false => 0
def w1L (l : Bs) : LH := wHb l.length 1 l
def w1HP (l : Bs) : Nat -> Nat -> HP := exHP (fun _ : Unit => True) (fun _ => w1L l)
def w1 (l : Bs) : AO := .own (.turns [1]) (w1HP l)
theorem TI' (l : Bs) : ∃ cs e, getO (w1L l) 0 = some (.cells cs e) /\ e % 2 = 0 := ⟨_, _, rfl, by kernel_rfl⟩
theorem w1_cl (l : Bs) : ∀ x ∈ w1L l, x.2.cl (kH (w1L l)) := A0' ⟨rfl, Ye, Ye⟩ (A0' (AR' _ _) A1')
theorem open_1 {l : Bs} {f : FuncId} {Ar : List AV} {v : AV} {H' : LH} (h : Tri Θ W f Ar (w1L l) v H') : Tri Θ W f Ar [(0, w1 l)] v H' :=
 Tri.open (R := fun _ : Unit => True) (L := fun _ => w1L l) (H0 := []) (fun _ => rfl) (fun _ => w1_cl l) (fun _ => by obtain ⟨cs, e, h, _⟩ := TI' l; exact ⟨_, h⟩) fun _ _ => by rw [List.append_nil]; exact h
theorem shut_1 {l : Bs} {vs : List AV} (hv : AV.cls (fun i => Nat.blt i 1000) vs) : Goes vs (w1L l) vs [(0, w1 l)] := by
 have := Goes.shut (R := fun _ : Unit => True) (L := fun _ => w1L l) (m := .turns [1]) (H0 := []) (vs := vs) () trivial rfl (TI' l) (by
  have e : (fun i => Nat.blt i 1000 || (getO ([] : LH) i).isSome) = fun i => Nat.blt i 1000 := by funext i; simp only [getO, Option.isSome_none, Bool.or_false]
  rw [e]; exact hv) (fun x hx => by cases hx)
 rwa [List.append_nil] at this
theorem bi_in (l : Bs) (b : UInt8) : (rowV encB (l ++ [b])).getD (0 + l.length * 1) AV.undef = byv b := by
 rw [Nat.zero_add, Nat.mul_one, CX']; simp [vmap, List.getD, byv]
theorem bi_set (l : Bs) (b c : UInt8) : splice (rowV encB (l ++ [b])) (0 + l.length * 1) [byv c] = rowV encB (l ++ [c]) := by
 rw [Nat.zero_add, Nat.mul_one, splice, CX', CX']; simp [vmap, byv]
theorem hL' (l : Bs) (d : Bool) (hb : l.length + 1 <= 140737488351232) : Tri Θ default fBi [.ptr 0 0, .lit d] [(0, wM .nothing l)] (.tuple []) [(0, w1 (l ++ [bitB d]))] := by
 refine NZ' ?_; refine Tri.post (v := .tuple []) (H' := w1L (l ++ [bitB d])) ?_ (shut_1 ⟨Ye, Ye⟩)
 cases l with
 | nil =>
  cases d with
  | false =>
   refine AF' (con := []) (hints := A6' [ht' fBi 0 4]) (lc := []) kNu rfl (fun _ _ => noC) (fun F _ => noL) fun F => ?_
   refine Yj (X0' F) ⟨⟨?_, (AO' (vs' := [.tuple []]) (H' := w1L [0]) [(1001, 1101)] χ χ (Yb) ⟨⟨_, rfl, Yc⟩, ⟨_, rfl, AQ' rfl rfl⟩, Ye⟩).fits rfl⟩⟩; exact Cc14'
  | true =>
   refine AF' (con := []) (hints := A6' [ht' fBi 0 4, (fBi, 4, 9, hv (iv 0)), (fBi, 4, 11, hv (byv 0)), (fBi, 4, 16, hv (byv 1)), (fBi, 4, 17, hv (byv 1))]) (lc := []) kNu rfl (fun _ _ => noC) (fun F _ => noL) fun F => ?_
   refine Yj (WZ' F) ⟨⟨?_, (AO' (vs' := [.tuple []]) (H' := w1L [1]) [(1001, 1101)] χ χ (Yb) ⟨⟨_, rfl, Yc⟩, ⟨_, rfl, AQ' rfl rfl⟩, Ye⟩).fits rfl⟩⟩; exact Cc14'
 | cons x l =>
  have hne : x :: l ≠ [] := by simp
  rw [EG' hne]
  generalize hk : x :: l = k at *
  have a1 : (0 + k.length * 1).ble (rowV encB k).length = true := PQ' rfl; have a2 : ((k.length + 1) * 1).ble 140737488355328 = true := AL' ω; have a3 : (k.length + 1).ble 9223372036854775807 = true := AL' ω; have a4 : (List.take (k.length * 1) (List.drop 0 (rowV encB k))).length.beq (k.length * 1) = true := H6' rfl
  have a5 : OW (ce' (List.take (k.length * 1) (List.drop 0 (rowV encB k)) ++ [v' (vi' u8' (o' 0))]) tByt) (ce' (rowV encB (k ++ [0])) tByt) := by
   rw [H7' rfl [0] |>.symm]; exact Yc
  have a6 : 0 + k.length * 1 < (rowV encB (k ++ [0])).length := by rw [BS', la']; simp
  have a7 := bi_in k 0
  have a8 : Wk (v' (vi' IntKind.i64 (IntKind.i64.wrap (((k.length + 1 : Nat) : Int) - o' 1)))) (v' (vi' IntKind.i64 (o' k.length))) := by
   rw [show ((k.length + 1 : Nat) : Int) - o' 1 = (k.length : Int) from by simp only [Z0]; omega, IntWalk.i64_in _ ω]; exact Ya
  have a9 : (0 + k.length * 1 + 1).ble (rowV encB (k ++ [0])).length = true := by rw [BS', la']; exact AL' (by simp)
  have b1 : OW (ce' (splice (rowV encB (k ++ [0])) (0 + k.length * 1) [v' (vi' u8' (o' 1))]) tByt) (ce' (rowV encB (k ++ [1])) tByt) := by
   have := bi_set k 0 1; rw [<- this]; exact Yc
  have b2 : k.length < k.length + 1 := Nat.lt_succ_self _
  have hl1 : ∀ b : UInt8, (k ++ [b]).length = k.length + 1 := fun b => la'
  cases d with
  | false =>
   refine AF' (con := []) (hints := A6' [ht' fBi 0 4, (fBi, 1, 6, ho 1101 (rB (k ++ [0])))]) (lc := []) kNu rfl (fun _ _ => noC) (fun F _ => noL) fun F => ?_
   refine Yj (X2' k.length k (k ++ [0]) F) ⟨⟨?_, (AO' (vs' := [.tuple []]) (H' := w1L (k ++ [0])) [(1001, 1101)] χ χ (Yb) ⟨⟨_, rfl, by rw [hl1]; exact Yc⟩, ⟨_, rfl, AQ' rfl rfl⟩, Ye⟩).fits rfl⟩⟩; exact Cc14'
  | true =>
   refine AF' (con := []) (hints := A6' [ht' fBi 0 4, (fBi, 1, 6, ho 1101 (rB (k ++ [0]))), (fBi, 4, 9, hv (iv (o' k.length))), (fBi, 4, 11, hv (byv 0)), (fBi, 4, 16, hv (byv 1)), (fBi, 4, 17, hv (byv 1)), (fBi, 4, 19, ho 1101 (rB (k ++ [1])))]) (lc := []) kNu rfl (fun _ _ => noC) (fun F _ => noL) fun F => ?_
   refine Yj (X1' k.length k (k ++ [0]) (k ++ [1]) F) ⟨⟨?_, (AO' (vs' := [.tuple []]) (H' := w1L (k ++ [1])) [(1001, 1101)] χ χ (Yb) ⟨⟨_, rfl, by rw [hl1]; exact Yc⟩, ⟨_, rfl, AQ' rfl rfl⟩, Ye⟩).fits rfl⟩⟩
   simp only [ch', bl', true_and, and_true]; and_intros; all_goals first | (with_reducible exact Ye) | (with_reducible exact rfl) | (with_reducible exact Ya) | (with_reducible exact Yb) | (with_reducible exact Yc) | (with_reducible exact AT' _) | (with_reducible assumption) | (rw [a7]; exact rfl) | (rw [a7]; exact Ya) | exact Kc4'
theorem txt_eq (s : Δ) : vmap (List.map (fun b => vi' u8' ((b.toNat : Nat) : Int)) (List.take s.size s.data.toList)) = rowV encB (bts s) := by
 rw [CX', bts, List.take_of_length_le (Nat.le_of_eq (show s.data.toList.length = s.size from rfl))]
theorem Z1' (x : Int) (l : Bs) (s : Δ) (hne : l ≠ []) (hb : l.length + 4 + s.size <= 140737488351232) : Tri Θ default fLS [.ptr 0 0, sv s] (wHb l.length x l) (.tuple []) (wL ((l ++ be4 s.size) ++ bts s)) := by
 have hl := fun F => Z6' (n := s.size) (k := l) ω F
 rw [EG' hne, EG' (VE' l s.size)] at hl
 have hk4 : (l ++ be4 s.size).length = l.length + 4 := by rw [la']; rfl
 have hne2 : (l ++ be4 s.size) ++ bts s ≠ [] := by simp [be4]
 rw [EG' hne2]
 generalize hk : l ++ be4 s.size = k at *
 have hkl : (k ++ bts s).length = k.length + s.size := by rw [la', HB']
 have o1 : AV.rens (sgN (fun k => k) [1001] 1100) (rowV encB k) = rowV encB k := A5' _ _
 by_cases hz : s.size = 0
 ·have e0 : bts s = [] := List.eq_nil_of_length_eq_zero (by rw [HB']; exact hz); rw [e0, List.append_nil]
  refine AF' (con := []) (hints := A6' [(fNu, 1, 1, hv (iv 3)), (fLS, 1, 6, h0)]) (lc := [(fNu, 2, A3' fNu 2, lNu (wH l.length l) s.size (wH k.length k))]) kNu rfl (fun _ _ => noC) (fun F _ => C2' (hl F)) fun F => ?_
  refine Yj (e7' l.length k.length x l k s F) ⟨⟨?_, (AO' (vs' := [.tuple []]) (H' := wH k.length k) [(1001, 1100)] χ χ (Yb) ⟨⟨_, rfl, Yc⟩, ⟨_, rfl, AQ' o1 rfl⟩, Ye⟩).fits rfl⟩⟩; exact Cc15'
 ·have e1 := txt_eq s; have c1 : s.size.ble s.size = true := AL' (Yd)
  have c2 : (vmap (List.map (fun b => vi' u8' ((b.toNat : Nat) : Int)) (List.take s.size s.data.toList))).all AV.one = true := by rw [e1]; exact KD' _
  have c3 : 0 < s.size := Nat.pos_of_ne_zero hz
  have c4 : (0 + k.length * 1).ble (AV.rens (sgN (fun k => k) [1001] 1100) (rowV encB k)).length = true := by rw [o1]; exact PQ' rfl
  have c5 : ((k.length + s.size) * 1).ble 140737488355328 = true := AL' ω; have c6 : (k.length + s.size).ble 9223372036854775807 = true := AL' ω
  have c7 : (List.take (k.length * 1) (List.drop 0 (AV.rens (sgN (fun k => k) [1001] 1100) (rowV encB k)))).length.beq (k.length * 1) = true := by rw [o1]; exact H6' rfl
  refine AF' (con := []) (hints := A6' [(fNu, 1, 1, hv (iv 3))]) (lc := [(fNu, 2, A3' fNu 2, lNu (wH l.length l) s.size (wH k.length k))]) kNu rfl (fun _ _ => noC) (fun F _ => C2' (hl F)) fun F => ?_
  refine Yj (e6' l.length k.length x l k s F) ⟨⟨?_, (AO' (vs' := [.tuple []]) (H' := wH (k ++ bts s).length (k ++ bts s)) [(1001, 1101)] χ χ (Yb) ⟨⟨_, rfl, by rw [hkl]; exact Yc⟩, ⟨_, rfl, AQ' (by rw [o1, e1, H7' rfl]) rfl⟩, Ye⟩).fits rfl⟩⟩; exact Cc15'
theorem fL' (l : Bs) (s : Δ) (hne : l ≠ []) (hb : l.length + 4 + s.size <= 140737488351232) : Tri Θ default fLS [.ptr 0 0, sv s] [(0, w1 l)] (.tuple []) [(0, wM .nothing ((l ++ be4 s.size) ++ bts s))] :=
 open_1 (Tri.post (v := .tuple []) (Z1' 1 l s hne hb) (NM' ⟨Ye, Ye⟩))
theorem fM' (l : Bs) (s : Δ) (hne : l ≠ []) (hb : l.length + 4 + s.size <= 140737488351232) : Tri Θ default fLS [.ptr 0 0, sv s] [(0, wM .nothing l)] (.tuple []) [(0, wM .nothing ((l ++ be4 s.size) ++ bts s))] :=
 NZ' (Tri.post (v := .tuple []) (by rw [EG' hne]; exact Z1' 0 l s hne hb) (NM' ⟨Ye, Ye⟩))
def wE (l : Bs) : AO := wM .nothing l
def nmE (i k : Nat) : Nat := match k with
 | 0 => i
 | k => k
def gP1 : List AV -> AP Nat := fun args => match args with
 | [.ptr i 0, _] => .ret i
 | [.ptr i 0] => .ret i
 | [.slice i _ _ _ _] => .ret i
 | _ => .fail "what"
def gLS : List AV -> AP (Nat × Bool) := fun args => match args with
 | [.ptr i 0, _] => .read i fun o => match o with
  | .own (.turns _) _ => .ret (i, true)
  | _ => .ret (i, false)
 | _ => .fail "what"
def lsS (k v : Δ) (b : Bool) : AV := match b with | true => sv k | false => sv v
def lsO (a1 a2 : Bs) (b : Bool) : AO := match b with | true => w1 a1 | false => wE a2
def lsR (a2 a3 : Bs) (b : Bool) : AO := match b with | true => wE a2 | false => wE a3
def cBi (d : Bool) (a0 a1 : Bs) : List AV -> Option (AP AV) := mkC gP1 (fun _ => True) nmE (fun _ => [.ptr 0 0, .lit d]) (fun _ => [(0, wE a0)]) (fun _ => .leaf .ret [.tuple []] [(0, w1 a1)])
def cLS (k v : Δ) (a1 a2 a3 : Bs) : List AV -> Option (AP AV) := mkC gLS (fun _ => True) (fun p => nmE p.1) (fun p => [.ptr 0 0, lsS k v p.2]) (fun p => [(0, lsO a1 a2 p.2)]) (fun p => .leaf .ret [.tuple []] [(0, lsR a2 a3 p.2)])
def aEc (n i : Nat) : List (Nat × AV) := [(3, .ptr 1051 0), (7, sC 1050 n), (8, iv (o' n)), (9, iv (o' i))]
def ixEc : List Nat := [3, 7, 8, 9]
def oEc (l : List Chg) (a : Bs) : LH := [(1050, rC l), (1051, wE a)]
theorem eI' (n i : Nat) (l : List Chg) (k v : Δ) (d : Bool) (a0 a1 a2 a3 : Bs) (F : HP) : AW' [(fBi, cBi d a0 a1), (fLS, cLS k v a1 a2 a3)] (A6' [ht' fEc 3 0, (fEc, 4, 1, hv (.agg [sv k, sv v, bv d])), (fEc, 8, 0, hv (iv (o' (i + 1))))]) [] default fEc (A3' fEc 3) (tms 0 28 (aEc n i)) (oEc l a0) [1050, 1051] ixEc F = VT.leaf (AX.normal,[pt' 1051 0,AV.slice 1050 0 n 3 (Cp.lo n),i' n,i' (i + 1)],28) [some (ce' (rowV chV l) 58),some (AO.own Md.nothing (wHP a3))] 1101 (h33' i n l k v d ((ee' (some d)).a (((Cnd.p True).a ((p' (VW [pt' 1051 0,b' d] [pt' 1051 0,AV.lit d])).a (f' (OW (AO.own Md.nothing (wHP a0)) (AO.own Md.nothing (wHP a0)))))).a ((k35' k).a (((Cnd.p True).a ((vw' [pt' 1051 0,s' k]).a (f' (OW (AO.own (Md.turns [o' 1]) (w1HP a1)) (AO.own (Md.turns [o' 1]) (w1HP a1)))))).a ((k35' v).a (((Cnd.p True).a ((vw' [pt' 1051 0,s' v]).a (f' (OW (AO.own Md.nothing (wHP a2)) (AO.own Md.nothing (wHP a2)))))).a ((k2' i).a k1')))))))) := χ
theorem eJ' (n i : Nat) (l : List Chg) (a : Bs) (F : HP) : AW' [] (A6' [hf' fEc 3 0]) [] default fEc (A3' fEc 3) (tms 0 28 (aEc n i)) (oEc l a) [1050, 1051] ixEc F = VT.leaf (AX.exit 0,[pt' 1051 0,AV.slice 1050 0 n 3 (Cp.lo n),i' n,i' i],28) [some (ce' (rowV chV l) 58),some (AO.own Md.nothing (wHP a))] 1100 ((k31' i n).a k1') := χ
def cNwE : List AV -> Option (AP AV) := mkC (fun _ => .ret ()) (fun _ => True) (fun _ k => k) (fun _ => []) (fun _ => []) (fun _ => .leaf .ret [.ptr 1000 0] [(1000, wE [])])
def cByE (p : Nat) (e : Bs) : List AV -> Option (AP AV) := mkC gP1 (fun _ => True) nmE (fun _ => [.ptr 0 0]) (fun _ => [(0, wE e)]) (fun _ => .leaf .ret [sB 1000 p] [(0, wE e), (1000, rB e)])
def gEc : List AV -> AP (Nat × Nat) := fun tms => match tms.getD 3 AV.undef, tms.getD 7 AV.undef with
 | .ptr w 0, .slice i _ _ _ _ => .ret (i, w)
 | _, _ => .fail "what"
def nmEc (p : Nat × Nat) (k : Nat) : Nat := match Nat.beq k 1050 with
 | true => p.1
 | false => match Nat.beq k 1051 with
  | true => p.2
  | false => k
def lEc (n : Nat) (l : List Chg) (e : Bs) : List AV -> AP (AX × List AV) := mkL gEc (fun _ => True) nmEc (fun _ => tms 0 28 (aEc n 0)) (fun _ => oEc l []) (fun _ => .leaf (.exit 0) (tms 0 28 [(3, .ptr 1051 0)]) (oEc l e))
theorem oEc_eq (n p : Nat) (l : List Chg) (e : Bs) (F : HP) : wRun [(fNw, cNwE), (fBy, cByE p e)] BA' [(fEc, 3, A3' fEc 3, lEc n l e)] default fEc [sC 0 n] [(0, rC l)] [0, 1100, 1101, 1102, 1103, 1104] F = VT.leaf (AV.slice 1103 0 p 1 (Cp.lo p)) [none,none,some (ce' (AV.rens (sgN (nmEc (0,1100)) [1050,1051] 1101) (rowV chV l)) 58),some (AO.own Md.nothing (wHP e)),some (ce' (AV.rens (sgN (nmE 1102) [1000] 1103) (rowV encB e)) 10),none] 1104 (((Cnd.p True).a (f' (VW [] []))).a ((p' ((fEc,3,A3' fEc 3,lEc n l e).snd.snd.fst = (fEc,3,A3' fEc 3,lEc n l e).snd.snd.fst)).a (k4'.a ((p' (VW (AV.slice 0 0 n 3 (Cp.lo n)::u'::e'::pt' 1100 0::u'::u'::pt' 1100 0::AV.slice 0 0 n 3 (Cp.lo n)::z' ↑n::i' 0::ru16 (u'::u'::[])) (a'::a'::a'::pt' 1100 0::a'::a'::a'::AV.slice 0 0 n 3 (Cp.lo n)::i' n::i' 0::ra16 (a'::a'::[])))).a ((p' (OW (ce' (rowV chV l) 58) (ce' (AV.rens (nmEc (0,1100)) (rowV chV l)) 58))).a ((ow' (AO.own Md.nothing (wHP []))).a (((Cnd.p True).a ((vw' [pt' 1102 0]).a (f' (OW (AO.own Md.nothing (wHP e)) (AO.own Md.nothing (wHP e)))))).a k1'))))))) := χ
def en1 (a : Bs) (x : Chg) : Bs := a ++ [bitB x.d]
def en2 (a : Bs) (x : Chg) : Bs := (en1 a x ++ be4 x.k.size) ++ bts x.k
def en3 (a : Bs) (x : Chg) : Bs := (en2 a x ++ be4 x.v.size) ++ bts x.v
def encL (l : List Chg) : Bs := l.foldl en3 []
theorem V1' (a : Bs) (x : Chg) : (en1 a x).length = a.length + 1 := by rw [en1, la']; rfl
theorem V0' (a : Bs) (x : Chg) : (en2 a x).length = a.length + 5 + x.k.size := by rw [en2, la', la', V1', CQ', HB']
theorem QA' (a : Bs) (x : Chg) : (en3 a x).length = a.length + (9 + szC x) := by rw [en3, la', la', V0', CQ', HB', szC]; omega
theorem en1_ne (a : Bs) (x : Chg) : en1 a x ≠ [] := by simp [en1]
theorem MN' : ∀ (l : List Chg) (a : Bs), (l.foldl en3 a).length = a.length + (9 * l.length + szL l)
 | [], a => rfl
 | x :: l, a => by
  rw [List.foldl_cons, MN' l, QA', D8', List.length_cons]; omega
theorem GK' (l : List Chg) : (encL l).length = 9 * l.length + szL l := by rw [encL, MN']; simp
theorem KP' (l : List Chg) (x : Chg) : encL (l ++ [x]) = en3 (encL l) x := by rw [encL, List.foldl_append]; rfl
theorem UT' : ∀ args, RO (gP1 args) := fun args => by
 unfold gP1
 split <;> first | exact RO.ret _ | exact RO.fail _
theorem gLS_ro : ∀ args, RO (gLS args) := fun args => by
 unfold gLS; split
 ·refine RO.read _ _ fun o => ?_
  split <;> exact RO.ret _
 ·exact RO.fail _
theorem cBi_ok (d : Bool) (a : Bs) (hb : a.length + 1 <= 140737488351232) (F : HP) : C1OK Θ F fBi (cBi d a (a ++ [bitB d])) :=
 AU' (W := default) AZ' (fun _ => .tuple []) UT' (fun _ => rfl) (fun _ _ => hL' a d hb) fun _ => ⟨rfl, rfl, ⟨rfl, Ye, Ye⟩, A0' Ye A1', ⟨Ye, Ye⟩, A0' Ye A1'⟩
theorem cLS_ok (k v : Δ) (a1 : Bs) (h1 : a1 ≠ []) (hb : a1.length + 4 + k.size + 4 + v.size <= 140737488351232) (F : HP) : C1OK Θ F fLS (cLS k v a1 ((a1 ++ be4 k.size) ++ bts k) ((((a1 ++ be4 k.size) ++ bts k) ++ be4 v.size) ++ bts v)) :=
 AU' (W := default) AZ' (fun _ => .tuple []) gLS_ro (fun p => rfl) (fun p _ => by
  obtain ⟨i, b⟩ := p
  cases b with
  | true => exact fL' a1 k h1 ω
  | false => exact fM' _ v (by simp [be4]) (by rw [la', la', CQ', HB']; omega)) fun p => by
  obtain ⟨i, b⟩ := p
  cases b with
  | true => exact ⟨rfl, rfl, ⟨rfl, Ye, Ye⟩, A0' Ye A1', ⟨Ye, Ye⟩, A0' Ye A1'⟩
  | false => exact ⟨rfl, rfl, ⟨rfl, Ye, Ye⟩, A0' Ye A1', ⟨Ye, Ye⟩, A0' Ye A1'⟩
theorem ld_row (l : List Chg) {x : Chg} (hx : l[i]? = some x) : List.take 3 (List.drop (0 + i * 3) (rowV chV l)) = vmap (chV x) := by
 have h1 : i < l.length := (List.getElem?_eq_some_iff.1 hx).1; have := M7' chV_len [] l x i h1; rw [List.length_nil, Nat.zero_mul, List.nil_append] at this; rw [this]; simp [List.getD, hx]
theorem g6' (l : List Chg) (hl : l.length <= 1048576) (hb : szL l <= C8') :
  LTri Θ default (A3' fEc 3) (tms 0 28 (aEc l.length 0)) (oEc l []) (.exit 0) (tms 0 28 [(3, .ptr 1051 0)]) (oEc l (encL l)) := by
 have key := B6' (W := default) (g := fEc) (b := A3' fEc 3) (σ := {i : Nat // i <= l.length}) 28 (fun i => aEc l.length i.1) (fun i => oEc l (encL (l.take i.1))) (.exit 0) [(3, .ptr 1051 0)] (oEc l (encL l)) (fun i => l.length - i.1) [1050, 1051] ixEc (by intro h; cases h) (fun i => rfl) rfl; refine key ?_ ⟨0, Nat.zero_le _⟩; rintro ⟨i, hi⟩; simp only
 by_cases h1 : i < l.length
 ·obtain ⟨x, hx⟩ := AY' h1
  have hsn : encL (l.take (i + 1)) = en3 (encL (l.take i)) x := by rw [B0' hx, KP']
  have hln : (encL (l.take i)).length = 9 * (l.take i).length + szL (l.take i) := GK' _; have hlt : (l.take i).length <= l.length := List.length_take_le' _ _; have hsz := HM' l (i + 1); rw [B0' hx, JW', D8', szC] at hsz; have hm : C8' = 1000000000000 := rfl; have hld := ld_row l hx; have e1 : Wk (.v (.bool (decide (o' i < o' l.length)))) (.lit true) := A2' (ltTN h1); have e3 : Wk (.v (.int .i64 (IntKind.i64.wrap (o' i + o' 1)))) (.v (.int .i64 (o' (i + 1)))) := C6' (B8' i ω)
  have q1 := fun F => cBi_ok x.d (encL (l.take i)) ω F
  have q2 := fun F => cLS_ok x.k x.v (en1 (encL (l.take i)) x) (en1_ne _ _) (by rw [V1']; omega) F
  obtain ⟨k, v, d⟩ := x
  generalize hn0 : encL (l.take i) = a0 at *
  generalize hn3 : encL (l.take (i + 1)) = a3 at *
  have e4 : en3 a0 ⟨k, v, d⟩ = (((en1 a0 ⟨k, v, d⟩ ++ be4 k.size) ++ bts k) ++ be4 v.size) ++ bts v := rfl; rw [<- e4, <- hsn] at q2; have e5 : a0 ++ [bitB d] = en1 a0 ⟨k, v, d⟩ := rfl; simp only at q1 q2; rw [e5] at q1
  generalize en1 a0 ⟨k, v, d⟩ = a1 at *
  generalize (a1 ++ be4 k.size) ++ bts k = a2 at *
  have e6 : Wk (.v (.bool d)) (.lit d) := AT' d
  refine ⟨[(fBi, cBi d a0 a1), (fLS, cLS k v a1 a2 a3)], A6' [ht' fEc 3 0, (fEc, 4, 1, hv (.agg [sv k, sv v, bv d])), (fEc, 8, 0, hv (iv (o' (i + 1))))], [], fun F _ => AC' (q1 F) (BJ' (q2 F)), fun _ _ => noL, fun F => ?_⟩
  refine Yj (eI' l.length i l k v d a0 a1 a2 a3 F) ⟨⟨?_, rfl, .inl ⟨rfl, ⟨i + 1, h1⟩, B1' h1, [(1050, 1050), (1051, 1051)], by kernel_rfl, by kernel_rfl, ⟨Ya, Ya, Ya, Ya, Ye⟩, ⟨_, rfl, IH' rfl rfl⟩, ⟨_, rfl, by simp only [hn3]; exact Yc⟩, Ye⟩⟩⟩
  simp only [ch', bl', hld, true_and, and_true]; and_intros; all_goals first | (with_reducible assumption) | (with_reducible exact Ye) | (with_reducible exact rfl) | (with_reducible exact Ya) | (with_reducible exact Yb) | (with_reducible exact Yc) | exact rfl | exact Ya | exact Yb | exact VW.cons Ya (VW.cons e6 VW.nil)
 ·have hie : i = l.length := ω
  subst hie; rw [List.take_length]
  refine ⟨[], A6' [hf' fEc 3 0], [], fun _ _ => noC, fun _ _ => noL, fun F => ?_⟩
  refine Yj (eJ' l.length l.length l (encL l) F) ⟨⟨?_, rfl, .inr ⟨rfl, [(1050, 1050), (1051, 1051)], by kernel_rfl, by kernel_rfl, ⟨Ya, Ye⟩, ⟨_, rfl, IH' rfl rfl⟩, ⟨_, rfl, Yc⟩, Ye⟩⟩⟩
  simp only [ch', and_true]; exact A2' (ltFN (Yd))
theorem h6' (F : HP) : C1OK Θ F fNw cNwE :=
 AU' (W := default) AZ' (fun _ => .ptr 1000 0) (fun _ => RO.ret _) (fun _ => rfl) (fun _ _ => YX' .nothing) fun _ => ⟨rfl, rfl, Ye, A1', ⟨rfl, Ye⟩, A0' Ye A1'⟩
theorem hE' (e : Bs) (hb : e.length <= big) (hne : e ≠ []) (F : HP) : C1OK Θ F fBy (cByE e.length e) :=
 AU' (W := default) AZ' (fun _ => sB 1000 e.length) UT' (fun _ => rfl) (fun _ _ => VC' .nothing e hb hne) fun _ => ⟨rfl, rfl, ⟨rfl, Ye⟩, A0' Ye A1', ⟨rfl, Ye⟩, A0' Ye (A0' (AR' _ _) A1')⟩
theorem gEc_ro : ∀ tms, RO (gEc tms) := fun tms => by
 unfold gEc
 split <;> first | exact RO.ret _ | exact RO.fail _
theorem lEc_ok (l : List Chg) (hl : l.length <= 1048576) (hb : szL l <= C8') (F : HP) : L1OK Θ F (A3' fEc 3) (lEc l.length l (encL l)) :=
 BV' (W := default) AZ' (fun _ => gEc_ro _) (fun _ _ => g6' l hl hb) fun _ => by
  simp only [RT.pick]; exact BD' rfl rfl (A0' rfl (A0' rfl (A0' Ye (A0' Ye A1')))) (A0' (K9' _ _) (A0' Ye A1')) (A0' rfl A1') (A0' (K9' _ _) (A0' Ye A1'))
theorem Q9' {l : List Chg} (h : l ≠ []) : encL l ≠ [] := fun e => by
 have := GK' l; rw [e, List.length_nil] at this
 cases l with
 | nil => exact h rfl
 | cons x l => rw [List.length_cons] at this; omega
theorem ec_tri (l : List Chg) (hl : l.length <= 1048576) (hb : szL l <= C8') (hne : l ≠ []) : Tri Θ default fEc [sC 0 l.length] [(0, rC l)] (sB 1000 (encL l).length) [(1000, rB (encL l))] := by
 have hm : C8' = 1000000000000 := rfl
 have q2 := fun F => hE' (encL l) (by rw [GK']; show _ <= 140737488351232; omega) (Q9' hne) F
 have q3 := fun F => lEc_ok l hl hb F
 have o1 : AV.rens (nmEc (0, 1100)) (rowV chV l) = rowV chV l := A5' _ _
 have o2 : OW (ce' (rowV chV l) tCh) (ce' (AV.rens (nmEc (0, 1100)) (rowV chV l)) tCh) := by rw [o1]; exact Yc
 generalize encL l = e at *
 refine AF' (con := [(fNw, cNwE), (fBy, cByE e.length e)]) (hints := BA') (lc := [(fEc, 3, A3' fEc 3, lEc l.length l e)]) [0, 1100, 1101, 1102, 1103, 1104] rfl (fun F _ => AC' (h6' F) (BJ' (q2 F))) (fun F _ => C2' (q3 F)) fun F => ?_
 refine Yj (oEc_eq l.length e.length l e F) ⟨⟨?_, (AO' (vs' := [sB 1000 e.length]) (H' := [(1000, rB e)]) [(1000, 1103)] χ χ (Yb) ⟨⟨_, rfl, AQ' (A5' _ _) rfl⟩, Ye⟩).fits rfl⟩⟩
 simp only [ch', bl', true_and, and_true]; and_intros; all_goals first | (with_reducible assumption) | (with_reducible exact Ye) | (with_reducible exact rfl) | (with_reducible exact Ya) | (with_reducible exact Yb) | (with_reducible exact Yc) | exact rfl | exact Yb | exact Kc0'
noncomputable section
abbrev fDs : Nat := 48
abbrev fLs : Nat := 30
def aSy (z i : Nat) : List (Nat × AV) := [(0, .ptr 0 0), (8, pV z), (9, iv (o' z)), (10, iv (o' i))]
def hSy (i : Nat) (at' : Int) (oa : Option Addr) (m k : Nat) : BI' := A6' [ht' fDs 1 0, (fDs, 2, 1, hv (.agg [sv nm1, iv at', slV oa m k])), (fDs, 5, 0, hv (iv (o' (i + 1))))]
def kS : List Nat := [0, 1001, 1002, 1003, 1004, 1005, 1006, 2, 1100, 1101, 1102, 1103, 1104]
abbrev k54' : Cnd := (ee' (s' nm1))
theorem bN' (us at' : Int) (st ck p q z i m k : Nat) (oa : Option Addr) (da sa : Bs) (V : List Value) (PR : Mem -> Prop) (F : HP) : AW' [(fCl, cClB p da)] (hSy i at' oa m k) [] default fDs (A3' fDs 1) (tms 0 33 (aSy z i)) (uD (pV z) us st ck p q da sa (.cells (vmap V) tPw) PR) kS [0, 8, 9, 10] F = VT.leaf (AX.normal,[pt' 0 0,AV.slice 1005 0 z 3 (Cp.lo z),i' z,i' (i + 1)],33) [some (ce' [AV.map 1001,AV.slice 1005 0 z 3 (Cp.lo z),i' 1099511627776,z' us] 160),some (AO.map [(s' nm1,pt' 1002 0,st)] ck),some (ce' [AV.slice 1003 0 p 1 (Cp.lo p),AV.slice 1101 0 p 1 (Cp.lo p)] 174),some (ce' (AV.rens (sgN (fun k => match k with | 0 => 1003 | k => k) [1000] 1101) (rowV encB da)) 10),some (ce' (rowV encB sa) 10),some (ce' (vmap V) 180),some (AO.any (frz PR)),none,some (ce' [s' nm1,z' at',v' (Value.slice oa m k)] 180),some (ce' (AV.rens (sgN (fun k => match k with | 0 => 1003 | k => k) [1000] 1101) (rowV encB da)) 10),none,none,none] 1102 (h3' i z (((p' ((List.take 3 (List.drop (0 + i * 3) (vmap V))).length.beq 3 = true)).a ((p' (List.take 3 (List.drop (0 + i * 3) (vmap V)) = [v' (vs' ((List.take 3 (List.drop (0 + i * 3) (vmap V))).getD 0 (u')).strOf),v' (vi' IntKind.i64 ((List.take 3 (List.drop (0 + i * 3) (vmap V))).getD 1 (u')).intOf),(List.take 3 (List.drop (0 + i * 3) (vmap V))).getD 2 (u')])).a (f' (Wk (AV.agg [v' (vs' ((List.take 3 (List.drop (0 + i * 3) (vmap V))).getD 0 (u')).strOf),v' (vi' IntKind.i64 ((List.take 3 (List.drop (0 + i * 3) (vmap V))).getD 1 (u')).intOf),(List.take 3 (List.drop (0 + i * 3) (vmap V))).getD 2 (u')]) (AV.agg [s' nm1,z' at',v' (Value.slice oa m k)]))))).a (h15' (k54'.a ((f' (findKey Tryz.prog (envW [(32,cClB p da)] (hSy i at' oa m k) [] default F) 9 (s' nm1) [(s' nm1,pt' 1002 0,st)] 0 = AP.ret (some (0,pt' 1002 0)))).a (k7'.a (((Cnd.p True).a ((vw' [AV.slice 1003 0 p 1 (Cp.lo p)]).a (f' (OW (ce' (rowV encB da) 10) (ce' (AV.rens (fun k => match k with | 0 => 1003 | k => k) (rowV encB da)) 10))))).a (k7'.a ((k2' i).a k1'))))))))) := χ
theorem bP' (us : Int) (st ck p q z i : Nat) (da sa : Bs) (V : List Value) (PR : Mem -> Prop) (F : HP) : AW' [] (A6' [hf' fDs 1 0]) [] default fDs (A3' fDs 1) (tms 0 33 (aSy z i)) (uD (pV z) us st ck p q da sa (.cells (vmap V) tPw) PR) kS [0, 8, 9, 10] F = VT.leaf (AX.exit 0,[pt' 0 0,AV.slice 1005 0 z 3 (Cp.lo z),i' z,i' i],33) [some (ce' [AV.map 1001,AV.slice 1005 0 z 3 (Cp.lo z),i' 1099511627776,z' us] 160),some (AO.map [(s' nm1,pt' 1002 0,st)] ck),some (ce' [AV.slice 1003 0 p 1 (Cp.lo p),AV.slice 1004 0 q 1 (Cp.lo q)] 174),some (ce' (rowV encB da) 10),some (ce' (rowV encB sa) 10),some (ce' (vmap V) 180),some (AO.any (frz PR)),none,none,none,none,none,none] 1100 ((k31' i z).a k1') := χ
def lSy (us : Int) (st ck p q z : Nat) (da sa : Bs) (V : List Value) (PR : Mem -> Prop) : List AV -> AP (AX × List AV) := mkL (fun _ => .ret ()) (fun _ => True) (fun _ k => k) (fun _ => tms 0 33 (aSy z 0)) (fun _ => uD (pV z) us st ck p q da sa (.cells (vmap V) tPw) PR) (fun _ => .leaf (.exit 0) (tms 0 33 [(0, .ptr 0 0)]) (uD (pV z) us st ck p p da da (.cells (vmap V) tPw) PR))
theorem bO' (us sz : Int) (st ck p q z : Nat) (da sa : Bs) (V : List Value) (PR : Mem -> Prop) (F : HP) : wRun [] BA' [(fDs, 1, A3' fDs 1, lSy us st ck p q z da sa V PR)] default fLs [.ptr 2 0] (uD (pV z) us st ck p q da sa (.cells (vmap V) tPw) PR ++ [(2, lgC sz)]) kS F = VT.leaf (AV.tuple []) [some (ce' [AV.map 1100,e',i' 1099511627776,z' us] 160),none,none,none,none,none,none,some (ce' [pt' 0 0,s' nmL,i' 1,z' sz] 216),some (AO.map [(s' nm1,pt' 1101 0,st)] ck),some (ce' [AV.slice 1102 0 p 1 (Cp.lo p),AV.slice 1103 0 p 1 (Cp.lo p)] 174),some (ce' (AV.rens (sgN (fun k => k) [1001,1002,1003,1004,1005,1006] 1100) (rowV encB da)) 10),some (ce' (AV.rens (sgN (fun k => k) [1001,1002,1003,1004,1005,1006] 1100) (rowV encB da)) 10),some (ce' (AV.rens (sgN (fun k => k) [1001,1002,1003,1004,1005,1006] 1100) (vmap V)) 180)] 1106 (k7'.a (((fe' true).a ((p' ((fDs,1,A3' fDs 1,lSy us st ck p q z da sa V PR).snd.snd.fst = (fDs,1,A3' fDs 1,lSy us st ck p q z da sa V PR).snd.snd.fst)).a ((Cnd.p True).a ((p' (VW (pt' 0 0::ru4 (pt' 0 0::pt' 0 0::pt' 0 1::AV.slice 1005 0 z 3 (Cp.lo z)::z' ↑z::i' 0::ru16 (ru4 (u'::u'::[])))) (pt' 0 0::ra4 (a'::a'::a'::AV.slice 1005 0 z 3 (Cp.lo z)::i' z::i' 0::ra16 (ra4 (a'::a'::[])))))).a ((ow' (ce' [AV.map 1001,AV.slice 1005 0 z 3 (Cp.lo z),i' 1099511627776,z' us] 160)).a ((ow' (AO.map [(s' nm1,pt' 1002 0,st)] ck)).a ((ow' (ce' [AV.slice 1003 0 p 1 (Cp.lo p),AV.slice 1004 0 q 1 (Cp.lo q)] 174)).a ((p' (OW (ce' (rowV encB da) 10) (ce' (AV.rens (fun k => k) (rowV encB da)) 10))).a ((p' (OW (ce' (rowV encB sa) 10) (ce' (AV.rens (fun k => k) (rowV encB sa)) 10))).a ((p' (OW (ce' (vmap V) 180) (ce' (AV.rens (fun k => k) (vmap V)) 180))).a ((ow' (AO.any (frz PR))).a ((fe' true).a t')))))))))))).a k1')) := χ
theorem bM' (us sz : Int) (st ck p q : Nat) (da sa : Bs) (O : AO) (PR : Mem -> Prop) (F : HP) : wRun [] BA' [] default fLs [.ptr 2 0] (uD nilS us st ck p q da sa O PR ++ [(2, lgC sz)]) kS F = VT.ite false (VT.bad "indexAddr") (VT.leaf (AV.tuple []) [some (ce' [AV.map 1001,e',i' 1099511627776,z' us] 160),some (AO.map [(s' nm1,pt' 1002 0,st)] ck),some (ce' [AV.slice 1003 0 p 1 (Cp.lo p),AV.slice 1004 0 q 1 (Cp.lo q)] 174),some (ce' (rowV encB da) 10),some (ce' (rowV encB sa) 10),some O,some (AO.any (frz PR)),some (ce' [pt' 0 0,s' nmL,i' 1,z' sz] 216),none,none,none,none,none] 1100 (k7'.a (((fe' true).a ((fe' true).a t')).a k1'))) := χ
end
def AtV (V : List Value) (z : Nat) : Prop := ∀ i, i < z -> ∃ (n : Nat) (oa : Option Addr) (m k : Nat), List.take 3 (List.drop (0 + i * 3) (vmap V)) = [sv nm1, iv (o' n), slV oa m k]
theorem U4' : ∀ (xs : List Rs) (o i : Nat) (x : Rs), xs[i]? = some x -> List.take 3 (List.drop (0 + i * 3) (vmap (pwV o xs))) = [sv nm1, iv (o' (o + lenR (xs.take i))), slV x.a x.d.length x.c]
 | [], o, i, x, h => by simp at h
 | y :: xs, o, 0, x, h => by
  simp only [List.getElem?_cons_zero, Option.some.injEq] at h; subst h; rfl
 | y :: xs, o, i + 1, x, h => by
  have := U4' xs (o + y.d.length) i x (by simpa using h); rw [List.take_succ_cons, G5', <- Nat.add_assoc, <- this]
  have e : 0 + (i + 1) * 3 = (0 + i * 3) + 3 := ω
  rw [e]; rfl
theorem aS' (xs : List Rs) (o : Nat) : AtV (pwV o xs) xs.length := fun i hi => ⟨_, _, _, _, U4' xs o i _ (List.getElem?_eq_getElem hi)⟩
theorem aC' (us : Int) (q z : Nat) (hz : 0 < z) (hzb : z < 1099511627776) (da sa : Bs) (hb : da.length <= big) (hp : 0 < da.length) (V : List Value) (hV : AtV V z) (PR : Mem -> Prop) :
  LTri Θ default (A3' fDs 1) (tms 0 33 (aSy z 0)) (uD (pV z) us mSt mCk da.length q da sa (.cells (vmap V) tPw) PR) (.exit 0) (tms 0 33 [(0, .ptr 0 0)]) (uD (pV z) us mSt mCk da.length da.length da da (.cells (vmap V) tPw) PR) := by
 refine B6' (W := default) (g := fDs) (b := A3' fDs 1) (σ := {s : Nat × Nat × Bs // s.1 <= z /\ ((s.1 = 0 /\ s.2 = (q, sa)) \/ (s.2 = (da.length, da)))}) 33 (fun s => aSy z s.1.1) (fun s => uD (pV z) us mSt mCk da.length s.1.2.1 da s.1.2.2 (.cells (vmap V) tPw) PR) (.exit 0) [(0, .ptr 0 0)] (uD (pV z) us mSt mCk da.length da.length da da (.cells (vmap V) tPw) PR) (fun s => z - s.1.1) kS [0, 8, 9, 10] (by intro h; cases h) (fun _ => rfl) rfl ?_ ⟨(0, q, sa), Nat.zero_le _, .inl ⟨rfl, rfl⟩⟩; rintro ⟨⟨i, q', sa'⟩, hi, hs⟩; simp only at hi hs ⊢
 by_cases h1 : i < z
 ·obtain ⟨n, oa, m, k, he⟩ := hV i h1; have e1 : decide (o' i < o' z) = true := ltTN h1; have hw := B8' i ω
  have hbl : i.blt z = true := by rw [bl']; exact h1
  refine ⟨[(fCl, cClB da.length da)], hSy i (o' n) oa m k, [], fun F hF => BJ' (GB' hb hp F), fun _ _ => noL, fun F => ?_⟩
  refine Yj (bN' us (o' n) mSt mCk da.length q' z i m k oa da sa' V PR F) ⟨⟨?_, rfl, .inl ⟨rfl, ⟨(i + 1, da.length, da), h1, .inr rfl⟩, B1' h1, [(1001, 1001), (1002, 1002), (1003, 1003), (1004, 1101), (1005, 1005), (1006, 1006)], by kernel_rfl, by kernel_rfl, ⟨Ya, Ya, Ya, Ya, Ye⟩, ⟨_, rfl, Yc⟩, ⟨_, rfl, Yc⟩, ⟨_, rfl, Yc⟩, ⟨_, rfl, AQ' (A5' _ _) rfl⟩, ⟨_, rfl, AQ' (A5' _ _) rfl⟩, ⟨_, rfl, OW.of_eq (by simp only [AO.ren, AS'])⟩, ⟨_, rfl, Yc⟩, Ye⟩⟩⟩
  simp only [ch', he, hbl, true_and, and_true]; and_intros; all_goals first | (with_reducible exact C6' hw) | (with_reducible exact A2' e1) | (with_reducible exact Ye) | (with_reducible exact rfl) | (with_reducible exact Ya) | (with_reducible exact Yb) | (with_reducible exact Yc) | exact rfl | exact Ya | exact Yb | (refine OW.of_eq ?_; simp only [AO.ren, A5']; done)
 ·have hie : i = z := ω
  subst hie
  have hq : q' = da.length /\ sa' = da := by
   rcases hs with ⟨h, _⟩ | h
   ·omega
   ·cases h; exact ⟨rfl, rfl⟩
  obtain ⟨rfl, rfl⟩ := hq
  refine ⟨[], A6' [hf' fDs 1 0], [], fun _ _ => noC, fun _ _ => noL, fun F => ?_⟩
  refine Yj (bP' us mSt mCk sa'.length sa'.length i i sa' sa' V PR F) ⟨⟨?_, rfl, .inr ⟨rfl, [(1001, 1001), (1002, 1002), (1003, 1003), (1004, 1004), (1005, 1005), (1006, 1006)], by kernel_rfl, by kernel_rfl, ⟨Ya, Ye⟩, ⟨_, rfl, Yc⟩, ⟨_, rfl, Yc⟩, ⟨_, rfl, Yc⟩, ⟨_, rfl, AQ' rfl rfl⟩, ⟨_, rfl, AQ' rfl rfl⟩, ⟨_, rfl, OW.of_eq (by simp only [AO.ren, AS'])⟩, ⟨_, rfl, Yc⟩, Ye⟩⟩⟩
  simp only [ch', and_true]; exact A2' (ltFN (Yd))
def uD5 (us : Int) (p q : Nat) (da sa : Bs) : LH := [(0, dkC nilS us), (1001, mpO mSt mCk), (1002, fiC p q), (1003, rB da), (1004, rB sa)]
theorem US' {S : List Bs} {H0 : LH} {vs : List AV} (hd : (([0, 1001, 1002, 1003, 1004, 1005, 1006] : List Nat).all fun i => (getO H0 i).isNone) = true) (hl : AA' 1100 H0 = true)
  (hv : AV.cls (fun i => Nat.blt i 1000 || (getO H0 i).isSome) vs) (ho : ∀ x ∈ H0, x.2.cl (fun i => Nat.blt i 1000 || (getO H0 i).isSome)) :
  Goes vs (uD5 (o' (cat S).length) (cat S).length (cat S).length (cat S) (cat S) ++ H0) vs ((0, dO S []) :: H0) := by
 have hd' := hd; simp only [List.all_cons, List.all_nil, Bool.and_true, Bool.and_eq_true, Option.isNone_iff_eq_none] at hd'; obtain ⟨n0, n1, n2, n3, n4, n5, n6⟩ := hd'; have hl' : (H0.all fun x => Nat.blt x.1 1100) = true := hl; have e0 : S ++ [] = S := List.append_nil S
 have g1 : Goes vs (uD5 (o' (cat S).length) (cat S).length (cat S).length (cat S) (cat S) ++ H0) vs (uD5 (o' (cat S).length) (cat S).length (cat S).length (cat S) (cat S) ++ ((1005, dumZ) :: H0)) := by
  refine ED' (k := 1005) (P := fun _ => True) (fun C => trivial) ?_ ?_ rfl δ ?_ (fun n hn => ?_)
  ·simp only [AA', uD5, List.cons_append, List.nil_append, List.all_cons, hl']; rfl
  ·simp only [AA', uD5, List.cons_append, List.nil_append, List.all_cons, hl']; rfl
  ·exact n5
  ·simp only [uD5, List.cons_append, List.nil_append, getO, if_neg hn]
 have g2 : Goes vs (uD5 (o' (cat S).length) (cat S).length (cat S).length (cat S) (cat S) ++ ((1005, dumZ) :: H0)) vs (dkL S [] [] ++ H0) := by
  refine ED' (k := 1006) (P := PB []) (fun C x hx => by cases hx) ?_ ?_ rfl δ ?_ (fun n hn => ?_)
  ·simp only [AA', uD5, List.cons_append, List.nil_append, List.all_cons, hl']; rfl
  ·simp only [AA', dkL, uD, List.cons_append, List.nil_append, List.all_cons, hl']; rfl
  ·exact n6
  ·simp only [uD5, dkL, uD, List.cons_append, List.nil_append, getO, if_neg hn, e0]; rfl
 exact (g1.trans g2).trans (YN' [] rfl hd hl hv ho)
theorem sy_run (us sz : Int) (q z : Nat) (hz : 0 < z) (hzb : z < 1099511627776) (da sa : Bs) (hb : da.length <= big) (hp : 0 < da.length) (V : List Value) (hV : AtV V z) (PR : Mem -> Prop) :
  Tri Θ default fLs [.ptr 2 0] (uD (pV z) us mSt mCk da.length q da sa (.cells (vmap V) tPw) PR ++ [(2, lgC sz)]) (.tuple []) (uD5 us da.length da.length da da ++ [(2, lgC sz)]) := by
 have hL : ∀ F, AH' default F -> L1OK Θ F (A3' fDs 1) (lSy us mSt mCk da.length q z da sa V PR) := fun F hF =>
  BV' hF (fun _ => RO.ret _) (fun _ _ => aC' us q z hz hzb da sa hb hp V hV PR) fun _ => by
   simp only [RT.pick]; refine BD' rfl rfl (A0' rfl (A0' rfl (A0' Ye (A0' Ye A1')))) (A0' ⟨rfl, rfl, Ye, Ye, Ye⟩ (A0' ⟨Ye, rfl, Ye⟩ (A0' ⟨rfl, rfl, Ye⟩ (A0' (AR' _ _) (A0' (AR' _ _) (A0' (C1' _ _) (A0' Ye A1'))))))) (A0' rfl A1') (A0' ⟨rfl, rfl, Ye, Ye, Ye⟩ (A0' ⟨Ye, rfl, Ye⟩ (A0' ⟨rfl, rfl, Ye⟩ (A0' (AR' _ _) (A0' (AR' _ _) (A0' (C1' _ _) (A0' Ye A1')))))))
 refine AF' (con := []) (hints := BA') (lc := [(fDs, 1, A3' fDs 1, lSy us mSt mCk da.length q z da sa V PR)]) kS χ (fun F _ => noC) (fun F hF => C2' (hL F hF)) fun F => ?_
 refine Yj (bO' us sz mSt mCk da.length q z da sa V PR F) ⟨⟨?_, (AO' (vs' := [.tuple []]) (H' := [(0, dkC nilS us), (1001, mpO mSt mCk), (1002, fiC da.length da.length), (1003, rB da), (1004, rB da), (2, lgC sz)]) [(1001, 1100), (1002, 1101), (1003, 1102), (1004, 1103)] χ χ (Yb) ⟨⟨_, rfl, Yc⟩, ⟨_, rfl, Yc⟩, ⟨_, rfl, Yc⟩, ⟨_, rfl, AQ' (A5' _ _) rfl⟩, ⟨_, rfl, AQ' (A5' _ _) rfl⟩, ⟨_, rfl, Yc⟩, Ye⟩).fits χ⟩⟩
 simp only [ch', true_and, and_true]; and_intros; all_goals exact Kc24'
theorem aB' (us sz : Int) (p q : Nat) (da sa : Bs) (O : AO) (PR : Mem -> Prop) :
  Tri Θ default fLs [.ptr 2 0] (uD nilS us mSt mCk p q da sa O PR ++ [(2, lgC sz)]) (.tuple []) (uD5 us p q da sa ++ [(2, lgC sz)]) := by
 refine AF' (con := []) (hints := BA') (lc := []) kS χ (fun F _ => noC) (fun F hF => noL) fun F => ?_
 refine Yj (bM' us sz mSt mCk p q da sa O PR F) ⟨fun h => (by cases h), fun _ => ⟨?_, (AO' (vs' := [.tuple []]) (H' := [(0, dkC nilS us), (1001, mpO mSt mCk), (1002, fiC p q), (1003, rB da), (1004, rB sa), (2, lgC sz)]) [(1001, 1001), (1002, 1002), (1003, 1003), (1004, 1004)] χ χ (Yb) ⟨⟨_, rfl, Yc⟩, ⟨_, rfl, Yc⟩, ⟨_, rfl, Yc⟩, ⟨_, rfl, AQ' rfl rfl⟩, ⟨_, rfl, AQ' rfl rfl⟩, ⟨_, rfl, Yc⟩, Ye⟩).fits χ⟩⟩
 simp [ch']
theorem sy_tri (S rs : List Bs) (sz : Int) (h0 : 0 < (cat S).length) (hz : (cat (S ++ rs)).length <= 1099511627776) (hk : rs.length < 1099511627776) : Tri Θ default fLs [.ptr 2 0] [(0, dO S rs), (2, lgC sz)] (.tuple []) [(0, dO (S ++ rs) []), (2, lgC sz)] := by
 refine UA' (H0 := [(2, lgC sz)]) (by rfl) χ fun xs hx => ?_
 have hg := US' (S := S ++ rs) (vs := [.tuple []]) (H0 := [(2, lgC sz)]) (by rfl) χ ⟨Ye, Ye⟩ (A0' ⟨rfl, Ye, Ye, Ye, Ye⟩ A1')
 have hxl : xs.length = rs.length := by have := congrArg List.length hx; simpa using this
 have hlen : 0 < (cat (S ++ rs)).length := by rw [KT', la']; omega
 cases xs with
 | nil =>
  obtain rfl : rs = [] := List.length_eq_zero_iff.1 hxl.symm; rw [List.append_nil] at hg ⊢; have := aB' (o' (cat (S ++ [])).length) sz (cat (S ++ [])).length (cat S).length (cat (S ++ [])) (cat S) dumZ (PB []); rw [List.append_nil] at this; rw [dkL, List.append_nil]; exact Tri.post this hg
 | cons x xs =>
  exact Tri.post (sy_run (o' (cat (S ++ rs)).length) sz (cat S).length (xs.length + 1) ω (by simp only [List.length_cons] at hxl; omega) (cat (S ++ rs)) (cat S) (by show _ <= 140737488351232; omega) hlen (pwV (cat S).length (x :: xs)) (aS' (x :: xs) _) (PB (x :: xs))) hg
abbrev fSo : Nat := 38
abbrev fKy : Nat := 69
abbrev fDo : Nat := 13
abbrev fWo : Nat := 34
def cSo : List AV -> Option (AP AV) := fun args => match args with
 | [.func (.func g) [] [.ptr i 0]] => match Nat.beq g fKy with
  | true => some (GF' 9 i)
  | false => none
 | _ => none
theorem RZ' (F : HP) : C1OK Θ F fSo cSo := by
 intro st W0 N h w1 args vargs v h' n n' lg lg' c p hp he hc r ha hf; unfold cSo at hp; split at hp
 ·rename_i g i
  have hva : ∃ l, N i = some l /\ vargs = #[.func (.func g) #[] #[.pointer (some ⟨l.blk, l.off + 0, none⟩)]] := by
   obtain ⟨y, r0, h1, h2, h3⟩ := (by simpa only [VRs] using ha : ∃ y r, VR N (.func (.func g) [] [.ptr i 0]) y /\ r = [] /\ vargs.toList = y :: r); subst h2; simp only [VR] at h1; obtain ⟨f', c', q1, q2, rfl⟩ := h1; simp only [VRs] at q1; subst q1; obtain ⟨z, r1, q3, q4, rfl⟩ := (by simpa only [VRs] using q2 : ∃ y r, VR N (.ptr i 0) y /\ r = [] /\ c' = y :: r); subst q4; simp only [VR] at q3; obtain ⟨l, hl, rfl⟩ := q3
   exact ⟨l, hl, by apply Array.ext'; simpa using h3⟩
  obtain ⟨l, hl, rfl⟩ := hva; split at hp
  ·rename_i hg; have hg := Nat.eq_of_beq_eq_true hg; subst hg; cases hp; exact EZ' χ aF' r hl hf he
  ·cases hp
 ·cases hp
def cGn : List AV -> Option (AP AV) := mkC (fun args => match args with | [.v (.string s)] => .ret s | _ => .fail "name") (fun s => s = nm1 \/ s = nmL) (fun _ k => k) (fun s => [sv s]) (fun _ => []) (fun _ => .leaf .ret [bv true] [])
theorem VB' (F : HP) : C1OK Θ F fGn cGn :=
 AU' (W := default) AZ' (fun _ => bv true) (fun args => by split <;> first | exact RO.ret _ | exact RO.fail _) (fun _ => rfl) (fun s h => by
  rcases h with rfl | rfl
  ·exact Q5' _
  ·exact g1' _) fun s => ⟨rfl, rfl, ⟨Ye, Ye⟩, A1', ⟨Ye, Ye⟩, A1'⟩
def cWz (n : Nat) (w : Bs) : List AV -> Option (AP AV) := mkC (fun _ => .ret ()) (fun _ => True) (fun _ k => k) (fun _ => [nilS]) (fun _ => []) (fun _ => .leaf .ret [.tuple [sB 1000 n, iv 0]] [(1000, rB w)])
theorem cWz_ok (hN : LN W) (F : HP) (hF : AH' W F) : C1OK Θ F fWp (cWz (BF' []).length (BF' [])) :=
 AU' hF (fun _ => .tuple [sB 1000 (BF' []).length, iv 0]) (fun _ => RO.ret _) (fun _ => rfl) (fun _ _ => QY' W hN none 0 [] ⟨Nat.zero_le _, fun i b hb => by simp at hb⟩ (Nat.zero_le _)) fun _ => ⟨rfl, rfl, ⟨Ye, Ye⟩, A1', ⟨⟨rfl, Ye, Ye⟩, Ye⟩, A0' (AR' _ _) A1'⟩
def dkZ : AO := .cells [.map 1001, nilS, iv 1099511627776, iv 0] tDk
def dZL : LH := [(0, dkZ), (1001, .map [] 0)]
def dZ : AO := .own .nothing (exHP (fun _ : Unit => True) (fun _ => dZL))
theorem open_z {f : FuncId} {A : List AV} {v : AV} {H' : LH} (h : Tri Θ W f A dZL v H') : Tri Θ W f A [(0, dZ)] v H' :=
 Tri.open (R := fun _ : Unit => True) (L := fun _ => dZL) (H0 := []) (fun _ => rfl) (fun _ => A0' ⟨rfl, Ye, Ye, Ye, Ye⟩ (A0' Ye A1')) (fun _ => ⟨_, rfl⟩) fun _ _ => by rw [List.append_nil]; exact h
end Go.Proofs.YtnnojnlejlokhaaGreatDoor.Wk
