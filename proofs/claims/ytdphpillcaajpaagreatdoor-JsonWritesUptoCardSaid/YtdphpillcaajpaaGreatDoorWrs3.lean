/- Parts of the proof, merged. -/
import Derived.Test.YtdphpillcaajpaaGreatDoorEngKit
import Derived.Lib.LaidTab
import Derived.Test.YtdphpillcaajpaaGreatDoorEngXWrs
import Derived.Test.YtdphpillcaajpaaGreatDoorEngCon
import Derived.Test.YtdphpillcaajpaaGreatDoorEngRow
import Derived.Test.YtdphpillcaajpaaGreatDoorShelf
import Derived.Lib.AppendIntMem
import Derived.Lib.SmallJoins
import Derived.Test.YtdphpillcaajpaaGreatDoorWrs1
import Derived.Lib.AtoiTie
import Derived.Lib.ItoaLen
import Derived.Lib.AtoiAllCases
import Derived.Lib.TrimU
import Derived.Lib.IndexBytes
set_option linter.unusedVariables false
set_option linter.unusedSimpArgs false
set_option maxRecDepth 100000
set_option linter.unusedSectionVars false
namespace Go.Proofs.YtdphpillcaajpaaGreatDoor.Kit
open Go Go.RowKit Eng
noncomputable section
def MS' (W w : World) : Prop := ∀ (b : Nat) (o : Obj), W.heap[b]? = some o → w.heap[b]? = some o
theorem MS'.cell {W w : World} (h : MS' W w) {a : Addr} {v : Value} (hv : W.cell? a = some v) : w.cell? a = some v := HI' h a v hv
theorem MS'.tab {W w : World} (h : MS' W w) {P : Program} {n : String} {k : IntKind} {zs : List Int} (ht : Lib.TabIs P W n k zs) : Lib.TabIs P w n k zs := by
 unfold Lib.TabIs World.var? at *
 cases hg : P.globalNamed n with
 | none => rw [hg] at ht; cases ht
 | some g =>
  rw [hg] at ht
  simp only [Option.bind_some] at ht ⊢
  cases hb : W.heap[g]? with
  | none => rw [hb] at ht; cases ht
  | some o => rw [hb] at ht; rw [h _ _ hb]; exact ht
def vC {π : Type} (get : List AV → Option π) (pre : π → Prop) (val : π → AV) : List AV → Option (AP AV) :=
 fun args => match get args with
 | some p => some (.need (pre p) (.ret (val p)))
 | none => some (.fail "arguments")
theorem VU' {W : World} {F : HP} (hF : AK' W F) {f : FuncId} {π : Type} {get : List AV → Option π} {pre : π → Prop} {val : π → AV} (args : π → List Value) (res : π → Value)
  (hg : ∀ A p, get A = some p → A = vmap (args p)) (hv : ∀ p N, VR N (val p) (res p))
  (h : ∀ p, pre p → ∀ w, MS' W w → Calls Tryz.prog f (args p).toArray w fun e w' => e = .returned (res p) ∧ Below w.heap.size w w') : C1OK Tryz.prog F f (vC get pre val) := by
 intro st W0 N h0 w A vargs v h' n n' lg lg' c q hp he hc r ha hf
 unfold vC at hp
 split at hp
 ·rename_i p hg1
  cases hp
  obtain ⟨c1, e1, rfl⟩ := AH' he
  obtain ⟨rfl, rfl, rfl⟩ := AA' e1
  obtain ⟨hpre, hc1⟩ := (Cnd.and_iff _ _).1 hc
  have hA := hg _ _ hg1
  subst hA
  have : vargs = (args p).toArray := by
   have := ha.of_vmap
   rw [← this]
  subst this
  obtain ⟨D0, D, h1, h2, h3⟩ := r.sat
  refine (h p hpre w (hF D0 w h1)).mono ?_
  rintro e w' ⟨rfl, hb⟩
  exact ⟨_, N, rfl, r.below hb, hv p N, fun _ _ => rfl⟩
 ·cases hp
  cases he
def g1s : List AV → Option ByteArray
 | [.v (.string s)] => some s
 | _ => none
theorem XJ' (A : List AV) (p : ByteArray) (h : g1s A = some p) : A = vmap [.string p] := by
 unfold g1s at h
 split at h
 ·cases h; rfl
 ·cases h
theorem vr_v (N : A8') (x : Value) : VR N (.v x) x := VR_v.2 rfl
end
end Go.Proofs.YtdphpillcaajpaaGreatDoor.Kit
namespace Go.Proofs.YtdphpillcaajpaaGreatDoor.Eng
open Go Go.RowKit
def CTri (P : Program) (W : World) (cd : Code) (A : List AV) (H : LH) {ρ : Type} (ax : ρ → AX) (A' : ρ → List AV) (H' : ρ → LH) : Prop :=
 ∀ (W0 : World) (F : HP) (N : A8') (w : World) (a : Act) (Q : Exit → Act → World → Prop), AK' W F → NB N H → Rep W0 N F (AX' H) w → VRs N A a.tmps.toList →
  (∀ r a' w', St W0 F N (H' r) (A' r) a'.tmps.toList w' → a'.defers = a.defers → Q (EC' (ax r)) a' w') → cd.wp P Q a w
section
variable {P : Program} {W : World} {ρ σ : Type}
theorem CTri.pre {cd : Code} {A A1 : List AV} {H H1 : LH} {ax : ρ → AX} {A' : ρ → List AV} {H' : ρ → LH} (h : CTri P W cd A1 H1 ax A' H') (hg : Goes A H A1 H1) : CTri P W cd A H ax A' H' := by
 intro W0 F N w a Q hF hN r ha hK
 obtain ⟨N1, g1, g2, g3, g4⟩ := hg W0 F N _ _ ⟨N, fun _ _ => rfl, hN, r, ha⟩
 exact h W0 F N1 w a Q hF g2 g3 g4 fun q a' w' ⟨N2, k1, k2, k3, k4⟩ hd => hK q a' w' ⟨N2, fun i hi => (k1 i hi).trans (g1 i hi), k2, k3, k4⟩ hd
theorem CTri.post {cd : Code} {A : List AV} {H : LH} {ax : ρ → AX} {A' : ρ → List AV} {H' : ρ → LH} {ρ2 : Type} {ax2 : ρ2 → AX} {A2 : ρ2 → List AV} {H2 : ρ2 → LH} (h : CTri P W cd A H ax A' H') (hg : ∀ r, ∃ r2, ax2 r2 = ax r ∧ Goes (A' r) (H' r) (A2 r2) (H2 r2)) : CTri P W cd A H ax2 A2 H2 := by
 intro W0 F N w a Q hF hN r ha hK
 refine h W0 F N w a Q hF hN r ha fun q a' w' hs hd => ?_
 obtain ⟨r2, e, hg⟩ := hg q
 rw [← e]
 exact hK r2 a' w' (hg _ _ _ _ _ hs) hd
theorem CTri.seq {c1 c2 : Code} {A : List AV} {H : LH} {A1 : σ → List AV} {H1 : σ → LH} {ax : ρ → AX} {A' : ρ → List AV} {H' : ρ → LH} (h1 : CTri P W c1 A H (fun _ : σ => .normal) A1 H1) (h2 : ∀ s, CTri P W c2 (A1 s) (H1 s) ax A' H') : CTri P W (.seq c1 c2) A H ax A' H' := by
 intro W0 F N w a Q hF hN r ha hK
 refine wp_seq (h1 W0 F N w a _ hF hN r ha fun s a' w' hs hd => ?_)
 obtain ⟨N1, g1, g2, g3, g4⟩ := hs
 exact h2 s W0 F N1 w' a' Q hF g2 g3 g4 fun q a2 w2 ⟨N2, k1, k2, k3, k4⟩ hd2 => hK q a2 w2 ⟨N2, fun i hi => (k1 i hi).trans (g1 i hi), k2, k3, k4⟩ (hd2.trans hd)
theorem CTri.block {c : Code} {id : Nat} {A : List AV} {H : LH} {A' : ρ → List AV} {H' : ρ → LH} (h : CTri P W c A H (fun _ : ρ => .exit id) A' H') : CTri P W (.block id c) A H (fun _ : ρ => .normal) A' H' := by
 intro W0 F N w a Q hF hN r ha hK
 refine wp_block (h W0 F N w a _ hF hN r ha fun q a' w' hs hd => ?_)
 show (if id = id then Q .normal a' w' else _)
 rw [if_pos rfl]
 exact hK q a' w' hs hd
theorem Tri.body {f : FuncId} {fn : Func} {cd : Code} {t m : Nat} {A A0 : List AV} {H H' : LH} {v : AV} {ax : AX} (hfn : P.funcs[f]? = some fn) (hcd : fn.body = some cd) (hres : fn.results = #[.tmp t]) (hm : fn.ntmps = m) (hA0 : A ++ List.replicate (m - A.length) AV.undef = A0) (hax : ax = .ret ∨ ax = .normal) (ht : t < m)
  (h : CTri P W cd A0 H (fun _ : Unit => ax) (fun _ => tms 0 m [(t, v)]) (fun _ => H')) : Tri P W f A H v H' := by
 intro W0 F N w vargs hF hN r ha
 have hlen : A.length = vargs.size := by rw [ha.len]; simp
 refine calls_of_wp hfn hcd ?_
 refine h W0 F N w _ _ hF hN r ?_ fun _ a' w' hs hd => ?_
 ·subst hA0
  rw [Array.toList_append, Array.toList_replicate, hm, hlen]
  refine ha.append ?_
  generalize m - vargs.size = k
  induction k with
  | zero => exact AN'
  | succ k ih => exact AB'.2 ⟨DD', ih⟩
 ·obtain ⟨N1, g1, g2, g3, g4⟩ := hs
  have hv : ∀ (k j : Nat) (l : List Value), k ≤ t → t < k + j → VRs N1 (tms k j [(t, v)]) l → ∃ y, l[t - k]? = some y ∧ VR N1 v y := by
   intro k j
   induction j generalizing k with
   | zero => intro l h1 h2; omega
   | succ j ih =>
    intro l h1 h2 hl
    rw [tms] at hl
    simp only [VRs] at hl
    obtain ⟨y, l', q1, q2, rfl⟩ := hl
    by_cases e : k = t
    ·subst e
     refine ⟨y, by simp, ?_⟩
     simpa using q1
    ·obtain ⟨z, z1, z2⟩ := ih (k + 1) l' (by omega) (by omega) q2
     exact ⟨z, by rw [show t - k = (t - (k + 1)) + 1 from by omega, List.getElem?_cons_succ]; exact z1, z2⟩
  obtain ⟨y, hy, hvy⟩ := hv 0 m _ (Nat.zero_le _) (by omega) g4
  have hr : (results fn a'.tmps).run P w' = .ok y w' := by
   unfold results
   rw [hres]
   have : a'.tmps.getD t Go.undef = y := by
    rw [Nat.sub_zero, Array.getElem?_toList] at hy
    simp [Array.getD_eq_getD_getElem?, hy]
   rw [Array.getD_eq_getD_getElem?] at this
   simp [this]
  have hpost : a'.defers = [] ∧ ∃ y, (results fn a'.tmps).run P w' = .ok y w' ∧ ∃ z, Ending.returned y = .returned z ∧ St W0 F N H' [v] [z] w' := ⟨hd, y, hr, y, rfl, N1, g1, g2, g3, AB'.2 ⟨hvy, AN'⟩⟩
  rcases hax with rfl | rfl
  ·exact hpost
  ·exact hpost
theorem CTri.run {con : ConT} {claim : B8'} {lcon : KB'} {g : FuncId} {cd : Code} {A : List AV} {H : LH} {ax : ρ → AX} {A' : ρ → List AV} {H' : ρ → LH} (ks : List Nat) (fuel : Nat) (hm : P.follows .mixedOrders = true) (hH : AF' 1100 H = true)
  (hcon : ∀ F, AK' W F → G6' P (envO P F con claim lcon W)) (hl : ∀ F, AK' W F → CZ' P (envO P F con claim lcon W))
  (hrun : ∀ F, AK' W F → (((C7' P (envO P F con claim lcon W) fuel g cd A).run2 (AX' H) 1100 []).view ks).all fun u os _ => SA' ks u.2 os fun W0 F N ys w => ∃ q, ax q = u.1 ∧ St W0 F N (H' q) (A' q) ys w) : CTri P W cd A H ax A' H' := by
 intro W0 F N w a Q hF hN r ha hK
 obtain ⟨⟨x, t⟩, h', n', lg', c, he, hc, hq⟩ := VT.all_pick (hrun F hF)
 rw [DT'] at he
 refine (CG' hF.env hm (hcon F hF) (hl F hF) fuel).1 _ _ _ _ _ _ _ _ _ _ _ _ _ _ _ _ _ _ he hc r ha (fun i h1 h2 => hN.nothing hH h1) fun N2 a2 w2 r2 t2 d2 x2 => ?_
 have hlim := DS' _ he (by decide)
 obtain ⟨q, e, hs⟩ := hq.state r2 x2 hlim (fun i hi => hN.nothing hH hi) t2
 simp only at e
 rw [← e]
 exact hK q a2 w2 hs d2
theorem CTri.loop {con : σ → ConT} {claim : σ → B8'} {lcon : σ → KB'} {g : FuncId} {b : Code} (A : σ → List AV) (H : σ → LH) (ax : ρ → AX) (A' : ρ → List AV) (H' : ρ → LH) (hax : ∀ q, ax q ≠ .normal) (μ : σ → Nat) (ks : List Nat) (fuel : Nat) (hm : P.follows .mixedOrders = true)
  (hH : ∀ s, AF' 1100 (H s) = true)
  (hcon : ∀ s F, AK' W F → G6' P (envO P F (con s) (claim s) (lcon s) W)) (hl : ∀ s F, AK' W F → CZ' P (envO P F (con s) (claim s) (lcon s) W))
  (hstep : ∀ s F, AK' W F → (((C7' P (envO P F (con s) (claim s) (lcon s) W) fuel g b (A s)).run2 (AX' (H s)) 1100 []).view ks).all fun r os _ =>
   SA' ks r.2 os fun W0 F N ys w => (r.1 = .normal ∧ ∃ s', μ s' < μ s ∧ St W0 F N (H s') (A s') ys w) ∨ ∃ q, ax q = r.1 ∧ St W0 F N (H' q) (A' q) ys w) (s : σ) :
  CTri P W (.loop b) (A s) (H s) ax A' H' := by
 intro W0 F N w a Q hF hN r ha hK
 refine wp_loop_rounds (μ s + 1) ?_
 have key : ∀ (m : Nat) (s : σ), μ s < m → ∀ (N1 : A8') (w : World) (a1 : Act), (∀ i, i < 1000 → N1 i = N i) → NB N1 (H s) → Rep W0 N1 F (AX' (H s)) w → VRs N1 (A s) a1.tmps.toList → a1.defers = a.defers →
   Code.rounds P b Q m a1 w := by
  intro m
  induction m with
  | zero => intro s hs; omega
  | succ m ih =>
   intro s hs N1 w a1 hN1 hNB r ha hd
   rw [rounds_succ]
   obtain ⟨⟨x, t⟩, h', n', lg', c, he, hc, hq⟩ := VT.all_pick (hstep s F hF)
   rw [DT'] at he
   refine (CG' hF.env hm (hcon s F hF) (hl s F hF) fuel).1 _ _ _ _ _ _ _ _ _ _ _ _ _ _ _ _ _ _ he hc r ha (fun i h1 h2 => hNB.nothing (hH s) h1) fun N2 a2 w2 r2 t2 d2 x2 => ?_
   have hlim := DS' _ he (by decide)
   have hN0 : ∀ i, 1100 ≤ i → N1 i = none := fun i hi => hNB.nothing (hH s) hi
   rcases hq.state r2 x2 hlim hN0 t2 with ⟨e, s', hμ, N3, q1, q2, q3, q4⟩ | ⟨q, e, N3, q1, q2, q3, q4⟩
   ·simp only at e
    subst e
    show Code.rounds P b Q m a2 w2
    exact ih s' (by omega) N3 w2 a2 (fun i hi => (q1 i hi).trans (hN1 i hi)) q2 q3 q4 (d2.trans hd)
   ·have hfin := hK q a2 w2 ⟨N3, fun i hi => (q1 i hi).trans (hN1 i hi), q2, q3, q4⟩ (d2.trans hd)
    have hx : x ≠ .normal := fun h => hax q (e.trans h)
    rw [e] at hfin
    cases x with
    | normal => exact absurd rfl hx
    | exit id => exact hfin
    | ret => exact hfin
 exact key _ s (by omega) N w a (fun _ _ => rfl) hN r ha rfl
end
end Go.Proofs.YtdphpillcaajpaaGreatDoor.Eng
namespace Go.Proofs.YtdphpillcaajpaaGreatDoor.Kit
open Go Go.RowKit Eng
section
variable {W : World} {g : FuncId} {ρ σ : Type}
theorem BP' {cd : Code} {con : HN'} {hints : B8'} {lc : LcL} (m : Nat) {A : List AV} {H : LH} {ax : ρ → AX} {A' : ρ → List (Nat × AV)} {H' : ρ → LH} (ks idx : List Nat) (hH : AF' 1100 H = true)
  (hcon : ∀ F, AK' W F → ∀ x ∈ con, C1OK Tryz.prog F x.1 x.2) (hl : ∀ F, AK' W F → ∀ x ∈ lc, L1OK Tryz.prog F x.2.2.1 x.2.2.2)
  (h : ∀ F, VAll (fun r os _ => r.2.2 = m ∧ IM' m ks idx r.2.1 os fun W0 F N ys w => ∃ q, ax q = r.1 ∧ St W0 F N (H' q) (tms 0 m (A' q)) ys w) (AR' con hints lc W g cd A H ks idx F)) : CTri Tryz.prog W cd A H ax (fun q => tms 0 m (A' q)) H' := by
 refine CTri.run (con := conL con) (claim := hints) (lcon := P4' lc) (g := g) ks 1000 TR' hH (fun F hF => M0' rfl (hcon F hF)) (fun F hF => IW' rfl (hl F hF)) fun F _ => ?_
 refine VT.all_mono (fun r os n hr => ?_) (VT.all_map (h F).out)
 obtain ⟨h1, t1, H1, l, hb, hf, hg⟩ := hr
 exact ⟨_, _, l, hb, hf.fit h1, hg⟩
theorem FitT.det {m : Nat} {ks idx : List Nat} {ts : List AV} {os : List (Option AO)} {told : List (Nat × AV)} {H : LH} {l : List (Nat × Nat)} {ax : ρ → AX} {A' : ρ → List (Nat × AV)} {H' : ρ → LH} {x : AX} (h : FitT ks idx ts os told H l) (hH : AF' 1100 H = true) (q : ρ) (hx : ax q = x) (hg : Goes (tms 0 m told) H (tms 0 m (A' q)) (H' q)) :
  IM' m ks idx ts os fun W0 F N ys w => ∃ q, ax q = x ∧ St W0 F N (H' q) (tms 0 m (A' q)) ys w := ⟨told, H, l, hH, h, fun W0 F N ys w hs => ⟨q, hx, hg _ _ _ _ _ hs⟩⟩
end
def fst : Code → Code
 | .seq a _ => a
 | c => c
def snd : Code → Code
 | .seq _ b => b
 | c => c
noncomputable def bodyN (f : FuncId) : Code := ((Tryz.prog.funcs[f]?).bind fun fn => fn.body).getD .skip
end Go.Proofs.YtdphpillcaajpaaGreatDoor.Kit
namespace Go.Proofs.YtdphpillcaajpaaGreatDoor.Eng
open Go Go.RowKit
section
variable {α : Type} {enc : α → List Value} {k : Nat}
end
end Go.Proofs.YtdphpillcaajpaaGreatDoor.Eng
namespace Go.Proofs.YtdphpillcaajpaaGreatDoor.Kit
open Go Go.RowKit Eng
def encS (s : ByteArray) : List Value := [.string s]
def nil0 : ByteArray := ByteArray.empty
abbrev tStr : TypeId := 2 * 9
def rS (l : List ByteArray) : AO := .cells (rowV encS l) tStr
theorem XR' (x : ByteArray) : (encS x).length = 1 := rfl
theorem rS_ren (σ : Nat → Nat) (L : List ByteArray) : (rS L).ren σ = rS L := by simp only [rS, AO.ren, AQ']
theorem rS_ow {x : List AV} {L : List ByteArray} {e : TypeId} {σ : Nat → Nat} (h : x = rowV encS L) (he : e = tStr) : OW (.cells x e) ((rS L).ren σ) := by rw [rS_ren]; subst h he; exact Yc
theorem H5' (K : Nat → Bool) (L : List ByteArray) : (rS L).cl K := M2' _ _
def byv (b : UInt8) : AV := .v (.int .u8 b.toNat)
def encB (b : UInt8) : List Value := [.int .u8 b.toNat]
abbrev tByt : TypeId := 2 * 5
def rB (l : List UInt8) : AO := .cells (rowV encB l) tByt
def sB (i n : Nat) : AV := .slice i 0 n 1 (.lo n)
theorem XS' (x : UInt8) : (encB x).length = 1 := rfl
theorem KZ' (M : List UInt8) : (rowV encB M).length = M.length := by rw [GL' (k := 1) XS', Nat.mul_one]
theorem rB_ren (σ : Nat → Nat) (L : List UInt8) : (rB L).ren σ = rB L := by simp only [rB, AO.ren, AQ']
theorem H6' {x : List AV} {L : List UInt8} {e : TypeId} {σ : Nat → Nat} (h : x = rowV encB L) (he : e = tByt) : OW (.cells x e) ((rB L).ren σ) := by rw [rB_ren]; subst h he; exact Yc
theorem ZT' (K : Nat → Bool) (L : List UInt8) : (rB L).cl K := M2' _ _
theorem IV' (l : List UInt8) : rowV encB l = vmap (l.map fun b => .int .u8 b.toNat) := by
 unfold rowV
 congr 1
 induction l with
 | nil => rfl
 | cons a l ih => rw [List.flatMap_cons, List.map_cons, ih]; rfl
theorem IO' {p : Nat} {P : List UInt8} (h : P.length = p) : (0 + p * 1).ble (rowV encB P).length = true := by rw [KZ', Nat.ble_eq]; omega
theorem CX' {p : Nat} {P : List UInt8} (h : P.length = p) : (List.take (p * 1) (List.drop 0 (rowV encB P))).length.beq (p * 1) = true := by
 have : (List.take (p * 1) (List.drop 0 (rowV encB P))).length = p * 1 := by rw [List.length_take, List.drop_zero, KZ']; omega
 rw [this]; exact Nat.beq_refl _
theorem LO' {p : Nat} {P : List UInt8} (h : P.length = p) (l : List UInt8) : List.take (p * 1) (List.drop 0 (rowV encB P)) ++ rowV encB l = rowV encB (P ++ l) := by
 rw [List.drop_zero, List.take_of_length_le (by rw [KZ']; omega), ← JC']
theorem ltFC {n : Nat} : decide (Int.ofNat n < (n : Int)) = false := decide_eq_false (by simp only [Z0]; omega)
theorem ltTC {j n : Nat} (h : j < n) : decide (Int.ofNat j < (n : Int)) = true := decide_eq_true (by simp only [Z0]; omega)
theorem VAll.ite {α : Type} {Q : α → List (Option AO) → Nat → Prop} {b : Bool} {x y : VT α} (h1 : b = true → VAll Q x) (h2 : b = false → VAll Q y) : VAll Q (.ite b x y) := ⟨⟨fun h => (h1 h).out, fun h => (h2 h).out⟩⟩
theorem SC' {b b' : Bool} (h : b = b') : Wk (.lit b) (.v (.bool b')) := by subst h; exact fun N y hy => VR_v.2 (DZ'.1 hy)
theorem YB' {b b' : Bool} (h : b = b') : Wk (.v (.bool b)) (.v (.bool b')) := by subst h; exact Ya
theorem wk_u8 {a b : Int} (h : a = b) : Wk (.v (.int .u8 a)) (.v (.int .u8 b)) := by subst h; exact Ya
end Go.Proofs.YtdphpillcaajpaaGreatDoor.Kit
namespace Go.Proofs.YtdphpillcaajpaaGreatDoor.Js
open Go Go.RowKit Eng Kit
noncomputable section
structure LW (W : World) : Prop where
 pows : Lib.TabIs Tryz.prog W "internal/strconv.uint64pow10" .u64 Lib.pow10Tab
def tB (l : List UInt8) : ByteArray := ⟨l.toArray⟩
theorem B4' (l : List UInt8) : (tB l).data.toList = l := by simp [tB]
theorem AW' (l : List UInt8) : (tB l).size = l.length := by simp [tB, ByteArray.size]
theorem CV' {a b : ByteArray} (h : a.data.toList = b.data.toList) : a = b := by
 cases a; cases b; congr 1; exact Array.ext' h
def idxC (s : ByteArray) (c : Int) : Int := Lib.indexByte s.data.toList c.toNat.toUInt8
abbrev PF' : Nat := 46
variable {W : World} {F : HP}
theorem vr_t2 (N : A8') (a b : Value) : VR N (.tuple [.v a, .v b]) (.tuple #[a, b]) := by
 simp only [VR, VRs]
 exact ⟨[a, b], ⟨a, [b], rfl, ⟨b, [], rfl, rfl, rfl⟩, rfl⟩, rfl⟩
def gSC : List AV → Option (ByteArray × Int)
 | [.v (.string s), .v (.int .u8 c)] => some (s, c)
 | _ => none
theorem XH' (A : List AV) (p : ByteArray × Int) (h : gSC A = some p) : A = vmap [.string p.1, .int .u8 p.2] := by
 unfold gSC at h
 split at h
 ·cases h; rfl
 ·cases h
def PO' : List AV → Option (AP AV) := vC gSC (fun _ => True) (fun p => iv (idxC p.1 p.2))
theorem M5' (hF : AK' W F) : C1OK Tryz.prog F PF' PO' :=
 VU' hF (fun p => [.string p.1, .int .u8 p.2]) (fun p => .int .i64 (idxC p.1 p.2)) XH' (fun p N => vr_v N _) fun p hp w hw =>
  (Tryz.strings_IndexByte p.1 p.2 w).mono fun e w' ⟨h1, h2⟩ => ⟨h1, by rw [h2]; exact Below.refl _ _⟩
end
noncomputable section
abbrev fCC : Nat := 60
abbrev tBld : TypeId := 2 * 52
def Z3' (a : Nat) (c0 c1 : AV) (e : TypeId) : AP AV := match c0 with
 | .v (.pointer none) => .write a (.cells [.ptr a 0, c1] e) (.ret (.tuple []))
 | .ptr b ob => match Nat.beq b a with
  | true => match Nat.beq ob 0 with
   | true => .ret (.tuple [])
   | false => .fail "copyCheck"
  | false => .fail "copyCheck"
 | _ => .fail "copyCheck"
def cCC : List AV → Option (AP AV) := fun args => match args with
 | [.ptr a off] => match Nat.beq off 0 with
  | true => some (.read a fun o => match o with
   | .cells [c0, c1] e => match Nat.beq e tBld with
    | true => Z3' a c0 c1 e
    | false => .fail "copyCheck"
   | _ => .fail "copyCheck")
  | false => some (.fail "copyCheck")
 | _ => some (.fail "copyCheck")
theorem QZ' {F : HP} : C1OK Tryz.prog F fCC cCC := by
 intro st W0 N h w args vargs v h' n n' lg lg' c p hp he hc r ha hf
 unfold cCC at hp
 split at hp
 ·rename_i a off
  split at hp
  ·rename_i hoff
   obtain rfl := Nat.eq_of_beq_eq_true hoff
   cases hp
   obtain ⟨o, ho, e1⟩ := B5' he
   obtain ⟨y, rest, ⟨l, hN, rfl⟩, rfl, hl⟩ := (by simpa only [VRs, VR] using ha : ∃ y r, (∃ l, N a = some l ∧ y = .pointer (some ⟨l.blk, l.off + 0, none⟩)) ∧ r = [] ∧ vargs.toList = y :: r)
   split at e1
   ·rename_i c0 c1 e
    split at e1
    ·rename_i hte
     obtain rfl := Nat.eq_of_beq_eq_true hte
     obtain ⟨D, hO⟩ := r.obj ho
     obtain ⟨l', arr, fz, row, _⟩ := hO.row
     obtain rfl : l' = l := Option.some.inj (row.name.symm.trans hN)
     obtain ⟨hz, hfz⟩ := row.plain rfl
     subst hfz
     have hva : vargs = #[.pointer (some ⟨l'.blk, 0, none⟩)] := by
      apply Array.ext'
      rw [hl, hz]
     subst hva
     have hsz : 2 ≤ arr.size := by have := row.fits; have := row.len; simp at this; omega
     have hcell : ∀ j, w.cell? ⟨l'.blk, j, none⟩ = arr[j]? := fun j => by
      have := row.cell j
      rw [hz, Nat.zero_add, List.drop_zero, Array.getElem?_toList] at this
      exact this
     have hvals := row.vals
     rw [hz, List.drop_zero] at hvals
     obtain ⟨u0, hu0, hv0⟩ := hvals.get (j := 0) (x := c0) rfl
     have hc0 : arr[0]? = some u0 := by
      rw [List.getElem?_take, if_pos (by simp), Array.getElem?_toList] at hu0
      exact hu0
     unfold Z3' at e1
     split at e1
     ·obtain ⟨o0, ho0, e2⟩ := AT' e1
      obtain ⟨rfl, rfl, rfl⟩ := AA' e2
      have hu : u0 = .pointer none := VR_v.1 hv0
      subst hu
      refine (XY' l'.blk w arr.size hsz (by rw [hcell]; exact hc0) (by simp [World.shape?, row.heap]) (by simp [World.frozen?, row.heap])).mono ?_
      rintro e w' ⟨rfl, rfl⟩
      refine ⟨_, N, rfl, ?_, by simp only [VR, VRs]; exact ⟨[], rfl, rfl⟩, fun _ _ => rfl⟩
      refine r.turn ho rfl rfl rfl fun D hD => ?_
      obtain ⟨l2, arr2, fz2, row2, hD2⟩ := hD.row
      obtain rfl : l2 = l' := Option.some.inj (row2.name.symm.trans hN)
      have hpv : VRs N [AV.ptr a 0] [Value.pointer (some ⟨l2.blk, 0, none⟩)] := AB'.2 ⟨by simp only [VR]; exact ⟨l2, hN, by rw [hz]⟩, AN'⟩
      obtain ⟨arr3, row3, _⟩ := row2.write (k := 0) (r := [AV.ptr a 0]) (by simp) (by have := row2.len; simp at this ⊢; omega) hpv
      have hw : w.setCells l2.blk (l2.off + 0) [Value.pointer (some ⟨l2.blk, 0, none⟩)] = w.setCell ⟨l2.blk, 0, none⟩ (.pointer (some ⟨l2.blk, 0, none⟩)) := by rw [hz]; rfl
      rw [hw] at row3
      exact ⟨fun b hb hd => Below.heap_setCell _ _ _ _ (fun e => hd ((hD2 b).2 e)), _, row3.or, fun b hb => .inl ((hD2 b).2 hb)⟩
     ·rename_i b ob
      split at e1
      ·rename_i hba
       split at e1
       ·rename_i hob
        obtain rfl := Nat.eq_of_beq_eq_true hba
        obtain rfl := Nat.eq_of_beq_eq_true hob
        obtain ⟨rfl, rfl, rfl⟩ := AA' e1
        have hu : u0 = .pointer (some ⟨l'.blk, 0, none⟩) := by
         obtain ⟨l3, h3, rfl⟩ := (by simpa only [VR] using hv0 : ∃ l, N b = some l ∧ u0 = .pointer (some ⟨l.blk, l.off + 0, none⟩))
         obtain rfl : l3 = l' := Option.some.inj (h3.symm.trans hN)
         rw [hz]
        subst hu
        refine (dX' l'.blk w (by rw [hcell]; exact hc0)).mono ?_
        rintro e w' ⟨rfl, rfl⟩
        exact ⟨_, N, rfl, r, by simp only [VR, VRs]; exact ⟨[], rfl, rfl⟩, fun _ _ => rfl⟩
       ·cases e1
      ·cases e1
     ·cases e1
    ·cases e1
   ·cases e1
  ·cases hp; cases he
 ·cases hp; cases he
end
noncomputable section
abbrev fSt : Nat := 20
def YH' (s : ByteArray) (c : AV) : AP AV := match c with
 | .slice i off n sz cap => match Nat.beq off 0 with
  | true => .read i fun o => match o with
   | .cells cs e => match Nat.beq e tByt with
    | true => .need ((List.take n cs = txtV s ∧ n ≤ cs.length) ∧ n = s.size ∧ 0 < n ∧ n ≤ 9223372036854775807) (.kill i (.ret (sv s)))
    | false => .fail "String"
   | _ => .fail "String"
  | false => .fail "String"
 | _ => .fail "String"
def cSt (s : ByteArray) : List AV → Option (AP AV) := fun args => match args with
 | [.ptr a off] => match Nat.beq off 0 with
  | true => some (.read a fun o => match o with
   | .cells [c0, c1] e => match Nat.beq e tBld with
    | true => YH' s c1
    | false => .fail "String"
   | _ => .fail "String")
  | false => some (.fail "String")
 | _ => some (.fail "String")
theorem ZI' {s : ByteArray} {j : Nat} {x : UInt8} (hx : s.data.toList[j]? = some x) : (txtV s)[j]? = some (.v (.int .u8 x.toNat)) := by
 have : (txtV s) = (s.data.toList.map fun b => AV.v (.int .u8 b.toNat)) := by
  unfold txtV
  generalize s.data.toList = l
  induction l with
  | nil => rfl
  | cons a l ih => rw [List.map_cons, List.map_cons, ← ih]; rfl
 rw [this, List.getElem?_map, hx]; rfl
theorem cSt_ok {F : HP} (s : ByteArray) : C1OK Tryz.prog F fSt (cSt s) := by
 intro st W0 N h w args vargs v h' n n' lg lg' c p hp he hc r ha hf
 unfold cSt at hp
 split at hp
 ·rename_i a off
  split at hp
  ·rename_i hoff
   obtain rfl := Nat.eq_of_beq_eq_true hoff
   cases hp
   obtain ⟨o, ho, e1⟩ := B5' he
   obtain ⟨y, rest, ⟨l, hN, rfl⟩, rfl, hl⟩ := (by simpa only [VRs, VR] using ha : ∃ y r, (∃ l, N a = some l ∧ y = .pointer (some ⟨l.blk, l.off + 0, none⟩)) ∧ r = [] ∧ vargs.toList = y :: r)
   split at e1
   ·rename_i c0 c1 e
    split at e1
    ·rename_i hte
     obtain rfl := Nat.eq_of_beq_eq_true hte
     obtain ⟨D, hO⟩ := r.obj ho
     obtain ⟨l', arr, fz, row, _⟩ := hO.row
     obtain rfl : l' = l := Option.some.inj (row.name.symm.trans hN)
     obtain ⟨hz, hfz⟩ := row.plain rfl
     have hva : vargs = #[.pointer (some ⟨l'.blk, 0, none⟩)] := by
      apply Array.ext'
      rw [hl, hz]
     subst hva
     have hcell : ∀ j, w.cell? ⟨l'.blk, j, none⟩ = arr[j]? := fun j => by
      have := row.cell j
      rw [hz, Nat.zero_add, List.drop_zero, Array.getElem?_toList] at this
      exact this
     have hvals := row.vals
     rw [hz, List.drop_zero] at hvals
     obtain ⟨u1, hu1, hv1⟩ := hvals.get (j := 1) (x := c1) rfl
     have hc1 : arr[1]? = some u1 := by
      rw [List.getElem?_take, if_pos (by simp), Array.getElem?_toList] at hu1
      exact hu1
     unfold YH' at e1
     split at e1
     ·rename_i i off2 m sz cap
      split at e1
      ·rename_i hof2
       obtain rfl := Nat.eq_of_beq_eq_true hof2
       obtain ⟨o2, ho2, e2⟩ := B5' e1
       split at e2
       ·rename_i cs e3
        split at e2
        ·rename_i hte2
         obtain rfl := Nat.eq_of_beq_eq_true hte2
         obtain ⟨k1, e4, rfl⟩ := AH' e2
         obtain ⟨⟨⟨ht, hle⟩, hm, hm0, hmx⟩, hk⟩ := (Cnd.and_iff _ _).1 hc
         obtain ⟨o3, ho3, e5⟩ := DF' e4
         obtain ⟨rfl, rfl, rfl⟩ := AA' e5
         obtain ⟨l2, x2, cp, hN2, rfl, hx, hroom, hcap, hlc⟩ := (by simpa only [VR] using hv1 : ∃ l x c, N i = some l ∧ u1 = .slice (some ⟨l.blk, x, none⟩) m c ∧ (x = l.off + 0 ∨ c = 0) ∧ 0 + c * sz ≤ l.room ∧ cap.fits c ∧ m ≤ c)
         obtain ⟨D2, hO2⟩ := r.obj ho2
         obtain ⟨l3, arr2, fz2, row2, hD2⟩ := hO2.row
         obtain rfl : l3 = l2 := Option.some.inj (row2.name.symm.trans hN2)
         have hz2 := (row2.plain rfl).1
         have hx0 : x2 = 0 := by rcases hx with h | h <;> omega
         subst hx0
         have hv2 := row2.vals
         rw [hz2, List.drop_zero] at hv2
         have hall : ∀ j (x : UInt8), s.data.toList[j]? = some x → arr2[j]? = some (Value.int .u8 x.toNat) := fun j x hx => by
          have hj : j < s.data.toList.length := (List.getElem?_eq_some_iff.1 hx).1
          have hsz : s.data.toList.length = s.size := rfl
          have h1 : cs[j]? = some (.v (.int .u8 x.toNat)) := by
           have : (List.take m cs)[j]? = some (.v (.int .u8 x.toNat)) := by rw [ht]; exact ZI' hx
           rw [List.getElem?_take, if_pos (by omega)] at this
           exact this
          obtain ⟨u, hu, hvu⟩ := hv2.get h1
          rw [List.getElem?_take, if_pos (by omega), Array.getElem?_toList] at hu
          rw [hu, VR_v.1 hvu]
         have hl0 : s.data.toList ≠ [] := fun e => by have : s.size = 0 := congrArg List.length e; omega
         have hfit := row2.fits
         have hlen := row2.len
         have hsh : w.shape? l3.blk = some (5, arr2.size) := by
          have := row2.heap
          simp [World.shape?, this]
         subst hm
         refine (W0' l'.blk l3.blk cp arr2.size s.data.toList w hl0 hlc (by show s.size ≤ _; omega) hmx (by rw [hcell]; exact hc1) hsh (fun j x hx => by
          have := row2.cell j
          rw [hz2, Nat.zero_add, List.drop_zero, Array.getElem?_toList] at this
          rw [CR', Nat.zero_add, this]
          exact hall j x hx)).mono ?_
         rintro e w' ⟨rfl, rfl⟩
         refine ⟨.string s, N, rfl, ?_, VR_v.2 rfl, fun _ _ => rfl⟩
         obtain ⟨f1, f2, f3, f4⟩ := JU' w.drew ⟨l3.blk, 0, none⟩ s.data.toList.length
         exact r.kill ho2 f1 f2 f3 fun D3 hD3 b hb hd => f4 b (fun e => hd (by
          obtain ⟨l4, arr4, fz4, row4, hD4⟩ := hD3.row
          obtain rfl : l4 = l3 := Option.some.inj (row4.name.symm.trans hN2)
          exact (hD4 b).2 e))
        ·cases e2
       ·cases e2
      ·cases e1
     ·cases e1
    ·cases e1
   ·cases e1
  ·cases hp; cases he
 ·cases hp; cases he
end
def isD (b : UInt8) : Bool := decide (48 ≤ b.toNat) && decide (b.toNat ≤ 57)
def digE (l : List UInt8) (n : Nat) : Nat := n + ((l.drop n).takeWhile isD).length
def sgn (ks l : List UInt8) (n : Nat) : Bool := match l[n]? with
 | some c => ks.contains c
 | none => false
def sgE (ks l : List UInt8) (n : Nat) : Nat := if sgn ks l n then n + 1 else n
def num3 (l : List UInt8) (n : Nat) : Nat × Bool :=
 if sgn [101, 69] l n then (digE l (sgE [43, 45] l (n + 1)), decide (sgE [43, 45] l (n + 1) < digE l (sgE [43, 45] l (n + 1)))) else (n, true)
def num2 (l : List UInt8) (n : Nat) : Nat × Bool :=
 if sgn [46] l n then (if n + 1 < digE l (n + 1) then num3 l (digE l (n + 1)) else (digE l (n + 1), false)) else num3 l n
def num (l : List UInt8) : Nat × Bool :=
 if sgn [48] l (sgE [45] l 0) then num2 l (sgE [45] l 0 + 1) else if sgE [45] l 0 < digE l (sgE [45] l 0) then num2 l (digE l (sgE [45] l 0)) else (digE l (sgE [45] l 0), false)
def TN' (l : List UInt8) (n : Nat) : Nat × Bool :=
 if sgn [101, 69] l n then (if !decide (sgE [43, 45] l (sgE [101, 69] l n) < digE l (sgE [43, 45] l (sgE [101, 69] l n))) then (digE l (sgE [43, 45] l (sgE [101, 69] l n)), false) else (digE l (sgE [43, 45] l (sgE [101, 69] l n)), true)) else (sgE [101, 69] l n, true)
def TO' (l : List UInt8) (n : Nat) : Nat × Bool :=
 if sgn [46] l n then (if !decide (sgE [46] l n < digE l (sgE [46] l n)) then (digE l (sgE [46] l n), false) else TN' l (digE l (sgE [46] l n))) else TN' l (sgE [46] l n)
def numR (l : List UInt8) : Nat × Bool :=
 if !sgn [48] l (sgE [45] l 0) then (if !decide (sgE [48] l (sgE [45] l 0) < digE l (sgE [48] l (sgE [45] l 0))) then (digE l (sgE [48] l (sgE [45] l 0)), false) else TO' l (digE l (sgE [48] l (sgE [45] l 0)))) else TO' l (sgE [48] l (sgE [45] l 0))
theorem N2' {ks l : List UInt8} {n : Nat} (h : sgn ks l n = true) : sgE ks l n = n + 1 := by unfold sgE; rw [if_pos h]
theorem LJ' {ks l : List UInt8} {n : Nat} (h : sgn ks l n = false) : sgE ks l n = n := by unfold sgE; rw [if_neg (by rw [h]; decide)]
theorem QL' (l : List UInt8) (n : Nat) : TN' l n = num3 l n := by
 unfold TN' num3
 cases h : sgn [101, 69] l n with
 | true =>
  rw [N2' h, if_pos rfl, if_pos rfl]
  by_cases h2 : sgE [43, 45] l (n + 1) < digE l (sgE [43, 45] l (n + 1))
  ·rw [decide_eq_true h2]; rfl
  ·rw [decide_eq_false h2]; rfl
 | false => rw [LJ' h, if_neg (by decide), if_neg (by decide)]
theorem QM' (l : List UInt8) (n : Nat) : TO' l n = num2 l n := by
 unfold TO' num2
 cases h : sgn [46] l n with
 | true =>
  rw [N2' h, if_pos rfl, if_pos rfl, QL']
  by_cases h2 : n + 1 < digE l (n + 1)
  ·rw [decide_eq_true h2, if_pos h2]; rfl
  ·rw [decide_eq_false h2, if_neg h2]; rfl
 | false => rw [LJ' h, if_neg (by decide), if_neg (by decide), QL']
theorem dA' (l : List UInt8) : numR l = num l := by
 unfold numR num
 rw [QM', QM']
 cases h : sgn [48] l (sgE [45] l 0) with
 | true => rw [N2' h, if_neg (by decide), if_pos rfl]
 | false =>
  rw [LJ' h, if_pos (show (!false) = true by decide), if_neg (show ¬ (false = true) by decide)]
  by_cases h2 : sgE [45] l 0 < digE l (sgE [45] l 0)
  ·rw [decide_eq_true h2, if_pos h2]; rfl
  ·rw [decide_eq_false h2, if_neg h2]; rfl
theorem K0' {l : List UInt8} {n : Nat} {c : UInt8} (hc : l[n]? = some c) (hd : isD c = true) : digE l n = digE l (n + 1) := by
 have hn : n < l.length := (List.getElem?_eq_some_iff.1 hc).1
 have hcc : l[n] = c := (List.getElem?_eq_some_iff.1 hc).2
 unfold digE
 rw [List.drop_eq_getElem_cons hn, hcc, List.takeWhile_cons, if_pos hd, List.length_cons]
 omega
theorem JZ' {l : List UInt8} {n : Nat} {c : UInt8} (hc : l[n]? = some c) (hd : isD c = false) : digE l n = n := by
 have hn : n < l.length := (List.getElem?_eq_some_iff.1 hc).1
 have hcc : l[n] = c := (List.getElem?_eq_some_iff.1 hc).2
 unfold digE
 rw [List.drop_eq_getElem_cons hn, hcc, List.takeWhile_cons, if_neg (by rw [hd]; decide)]
 rfl
theorem LY' {l : List UInt8} {n : Nat} (hn : l.length ≤ n) : digE l n = n := by
 unfold digE
 rw [List.drop_eq_nil_iff.2 hn]
 rfl
theorem PI' {l : List UInt8} {n : Nat} (hn : n ≤ l.length) : digE l n ≤ l.length := by
 unfold digE
 have h1 : ((l.drop n).takeWhile isD).length ≤ (l.drop n).length := by
  have := List.takeWhile_prefix (l := l.drop n) isD
  exact this.length_le
 rw [List.length_drop] at h1
 omega
def body (l : List UInt8) : List UInt8 := l.drop (sgE [45] l 0)
def below (l : List UInt8) : Bool := sgn [45] l 0
theorem sgE_le (ks l : List UInt8) (n : Nat) : n ≤ sgE ks l n ∧ sgE ks l n ≤ n + 1 ∧ (sgE ks l n = n + 1 → n < l.length) := by
 unfold sgE
 by_cases h : sgn ks l n = true
 ·rw [if_pos h]
  refine ⟨by omega, by omega, fun _ => ?_⟩
  unfold sgn at h
  split at h
  ·rename_i c hc; exact (List.getElem?_eq_some_iff.1 hc).1
  ·cases h
 ·rw [if_neg h]
  exact ⟨by omega, by omega, fun h => by omega⟩
theorem SV' {ks l : List UInt8} {n : Nat} (hn : n ≤ l.length) : sgE ks l n ≤ l.length := by
 have := sgE_le ks l n
 by_cases h : sgE ks l n = n + 1
 ·have := this.2.2 h; omega
 ·omega
inductive Jv where
 | mk (kind num : Int) (text : ByteArray) (list : List Jv) (names : List ByteArray)
 deriving Inhabited
def Jv.kind : Jv → Int
 | .mk k _ _ _ _ => k
def Jv.num : Jv → Int
 | .mk _ n _ _ _ => n
def Jv.text : Jv → ByteArray
 | .mk _ _ t _ _ => t
def Jv.list : Jv → List Jv
 | .mk _ _ _ l _ => l
def Jv.names : Jv → List ByteArray
 | .mk _ _ _ _ f => f
structure Rj where
 k : Int
 n : Int
 t : ByteArray
 la : Option Addr
 ll : Nat
 lc : Nat
 na : Option Addr
 nl : Nat
 nc : Nat
 deriving Inhabited
def Rj.cells (r : Rj) : List Value := [.int .i64 r.k, .int .i64 r.n, .string r.t, .slice r.la r.ll r.lc, .slice r.na r.nl r.nc]
def aggJ (r : Rj) : AV := .agg [iv r.k, iv r.n, sv r.t, slV r.la r.ll r.lc, slV r.na r.nl r.nc]
abbrev Mem := Addr → Option Value
def Cells (C : Mem) (a : Addr) (cs : List Value) : Prop := ∀ j u, cs[j]? = some u → C (a.add j) = some u
def big : Nat := 140737488351232
def LOf (V : Jv → Rj → Prop) (C : Mem) (oa : Option Addr) (l : List Jv) : Prop := l.length * 80 ≤ big ∧ ∀ i x, l[i]? = some x → ∃ a r, oa = some a ∧ Cells C (a.add (i * 5)) r.cells ∧ V x r
def NOf (C : Mem) (oa : Option Addr) (l : List ByteArray) : Prop := l.length * 16 ≤ big ∧ ∀ i x, l[i]? = some x → ∃ a, oa = some a ∧ C (a.add i) = some (.string x)
def JAt (C : Mem) : Nat → Jv → Rj → Prop
 | 0 => fun _ _ => False
 | d + 1 => fun v r => (r.k = v.kind ∧ r.n = v.num ∧ r.t = v.text ∧ r.ll = v.list.length ∧ r.nl = v.names.length) ∧ LOf (JAt C d) C r.la v.list ∧ NOf C r.na v.names
theorem Cells.mono {C C' : Mem} (h : ∀ a v, C a = some v → C' a = some v) {a : Addr} {cs : List Value} (hc : Cells C a cs) : Cells C' a cs := fun j u hu => h _ _ (hc j u hu)
theorem LOf.mono {V V' : Jv → Rj → Prop} (hV : ∀ x r, V x r → V' x r) {C C' : Mem} (h : ∀ a v, C a = some v → C' a = some v) {oa : Option Addr} {l : List Jv} (hl : LOf V C oa l) : LOf V' C' oa l :=
 ⟨hl.1, fun i x hx => by
  obtain ⟨a, r, h1, h2, h3⟩ := hl.2 i x hx
  exact ⟨a, r, h1, h2.mono h, hV _ _ h3⟩⟩
theorem NOf.mono {C C' : Mem} (h : ∀ a v, C a = some v → C' a = some v) {oa : Option Addr} {l : List ByteArray} (hl : NOf C oa l) : NOf C' oa l :=
 ⟨hl.1, fun i x hx => by
  obtain ⟨a, h1, h2⟩ := hl.2 i x hx
  exact ⟨a, h1, h _ _ h2⟩⟩
theorem JAt.mono {C C' : Mem} (h : ∀ a v, C a = some v → C' a = some v) : ∀ {d : Nat} {v : Jv} {r : Rj}, JAt C d v r → JAt C' d v r
 | 0, _, _, hv => hv.elim
 | d + 1, v, r, hv => ⟨hv.1, hv.2.1.mono (fun x r hx => JAt.mono h hx) h, hv.2.2.mono h⟩
noncomputable section
abbrev fNum : Nat := 31
abbrev fDig : Nat := 54
abbrev fSgn : Nat := 55
abbrev tIntO : TypeId := 2 * 3
def oN (n : Nat) (s : ByteArray) : LH := [(0, .cells [iv (Int.ofNat n)] tIntO), (1, .cells [sv s] tStr)]
def aD (m : Nat) : List (Nat × AV) := [(0, .ptr 0 0), (1, .ptr 1 0), (3, iv (Int.ofNat m))]
def hDg (x : UInt8) (i : Nat) (b1 b2 b : Bool) : B8' := A9' [(fDig, 2, 3, hv (.lit true)), (fDig, 2, 7, h0v (byv x)), (fDig, 2, 8, hv (.lit b1)), (fDig, 2, 13, h0v (byv x)), (fDig, 2, 14, hv (.lit b2)), (fDig, 2, 15, hv (.lit b)), (fDig, 3, 1, hv (iv (Int.ofNat (i + 1))))]
noncomputable section
abbrev k1' (q0 : Nat) : Cnd := ((p' (true = true)).a (f' (i' q0 = i' q0)))
abbrev k2' (q0 : ByteArray) : Cnd := ((p' (true = true)).a (f' (s' q0 = s' q0)))
abbrev k3' (q0 : Nat) (q1 : ByteArray) : Cnd := (f' (Wk (b' (decide (Int.ofNat q0 < ↑q1.size))) j'))
abbrev k4' (q0 : Nat) (q1 : ByteArray) (q2 : UInt8) : Cnd := ((p' (q0 < q1.size)).a (f' (Wk (AV.v (Value.int IntKind.u8 ↑(q1.data.toList.getD q0 0).toNat)) (AV.v (Value.int IntKind.u8 ↑q2.toNat)))))
abbrev k5' (q0 : UInt8) : Cnd := (f' (Wk (b' (decide (↑q0.toNat ≥ Int.ofNat 48))) j'))
abbrev k6' (q0 : UInt8) : Cnd := (f' (Wk (b' (decide (↑q0.toNat ≤ Int.ofNat 57))) j'))
abbrev k7' (q0 : Nat) : Cnd := (f' (Wk (z' (IntKind.i64.wrap (Int.ofNat q0 + Int.ofNat 1))) (i' (q0 + 1))))
abbrev k8' : Cnd := (f' (true = true))
end
theorem bS' (s : ByteArray) (x : UInt8) (m i : Nat) (F : HP) : AR' [] (hDg x i true true true) [] default fDig (A2' fDig 2) (tms 0 26 (aD m)) (oN i s) [0, 1] [0, 1, 3] F = VT.leaf (AX.normal,[AV.ptr 0 0,AV.ptr 1 0,i' m],26) [some (AO.cells [i' (i + 1)] 6),some (AO.cells [s' s] 18)] 1100 ((k1' i).a ((k2' s).a ((k3' i s).a ((k2' s).a ((k1' i).a ((k4' i s x).a ((k5' x).a ((k2' s).a ((k1' i).a ((k4' i s x).a ((k6' x).a ((f' (Wk j' j')).a ((k1' i).a ((k7' i).a (k8'.a t'))))))))))))))) := by kernel_rfl
noncomputable section
abbrev k9' (q0 : UInt8) : Cnd := (f' (Wk (b' (decide (↑q0.toNat ≥ Int.ofNat 48))) g'))
end
theorem bT' (s : ByteArray) (x : UInt8) (m i : Nat) (F : HP) : AR' [] (hDg x i false false false) [] default fDig (A2' fDig 2) (tms 0 26 (aD m)) (oN i s) [0, 1] [0, 1, 3] F = VT.leaf (AX.exit 0,[AV.ptr 0 0,AV.ptr 1 0,i' m],26) [some (AO.cells [i' i] 6),some (AO.cells [s' s] 18)] 1100 ((k1' i).a ((k2' s).a ((k3' i s).a ((k2' s).a ((k1' i).a ((k4' i s x).a ((k9' x).a ((f' (Wk g' g')).a t')))))))) := by kernel_rfl
noncomputable section
abbrev k10' (q0 : UInt8) : Cnd := (f' (Wk (b' (decide (↑q0.toNat ≤ Int.ofNat 57))) g'))
end
theorem bU' (s : ByteArray) (x : UInt8) (m i : Nat) (F : HP) : AR' [] (hDg x i true false false) [] default fDig (A2' fDig 2) (tms 0 26 (aD m)) (oN i s) [0, 1] [0, 1, 3] F = VT.leaf (AX.exit 0,[AV.ptr 0 0,AV.ptr 1 0,i' m],26) [some (AO.cells [i' i] 6),some (AO.cells [s' s] 18)] 1100 ((k1' i).a ((k2' s).a ((k3' i s).a ((k2' s).a ((k1' i).a ((k4' i s x).a ((k5' x).a ((k2' s).a ((k1' i).a ((k4' i s x).a ((k10' x).a ((f' (Wk g' g')).a t')))))))))))) := by kernel_rfl
noncomputable section
abbrev k11' (q0 : Nat) (q1 : ByteArray) : Cnd := (f' (Wk (b' (decide (Int.ofNat q0 < ↑q1.size))) g'))
end
theorem bV' (s : ByteArray) (m i : Nat) (F : HP) : AR' [] (A9' [(fDig, 2, 3, hv (.lit false))]) [] default fDig (A2' fDig 2) (tms 0 26 (aD m)) (oN i s) [0, 1] [0, 1, 3] F = VT.leaf (AX.exit 0,[AV.ptr 0 0,AV.ptr 1 0,i' m],26) [some (AO.cells [i' i] 6),some (AO.cells [s' s] 18)] 1100 ((k1' i).a ((k2' s).a ((k11' i s).a t'))) := by kernel_rfl
def lDg (s : ByteArray) (m e : Nat) : List AV → AP (AX × List AV) := mkL (fun _ => .ret ()) (fun _ => True) (fun _ k => k) (fun _ => tms 0 26 (aD m)) (fun _ => oN m s) (fun _ => .leaf (.exit 0) (tms 0 26 (aD m)) (oN e s))
noncomputable section
abbrev k12' : Cnd := (p' True)
end
theorem oDg_eq (s : ByteArray) (m e : Nat) (b : Bool) (F : HP) : wRun [] (A9' [(fDig, 4, 2, hv (bv b))]) [(fDig, 2, A2' fDig 2, lDg s m e)] default fDig [.ptr 0 0, .ptr 1 0] (oN m s) [0, 1] F = VT.leaf (b' b) [some (AO.cells [i' e] 6),some (AO.cells [s' s] 18)] 1100 ((k1' m).a ((p' ((fDig,2,A2' fDig 2,lDg s m e).snd.snd.fst = (fDig,2,A2' fDig 2,lDg s m e).snd.snd.fst)).a (k12'.a ((p' (VW (AV.ptr 0 0::AV.ptr 1 0::b' false::i' m::i' m::ru16 (ru4 (u'::[]))) (AV.ptr 0 0::AV.ptr 1 0::a'::i' m::ra16 (ra4 (a'::a'::[]))))).a ((p' (OW (AO.cells [i' m] 6) (AO.cells [i' m] 6))).a ((p' (OW (AO.cells [s' s] 18) (AO.cells [s' s] 18))).a ((k1' e).a ((f' (Wk (b' (decide (Int.ofNat e > Int.ofNat m))) (b' b))).a t')))))))) := by kernel_rfl
def hSg (x : UInt8) (n : Nat) (b : Bool) : B8' := A9' [(fSgn, 1, 3, hv (.lit true)), (fSgn, 1, 8, h0v (byv x)), (fSgn, 1, 10, hv (.lit b)), (fSgn, 2, 1, hv (iv (Int.ofNat (n + 1))))]
theorem aL' (s k : ByteArray) (x : UInt8) (n : Nat) (F : HP) : wRun [(PF', PO')] (hSg x n true) [] default fSgn [sv k, .ptr 0 0, .ptr 1 0] (oN n s) [0, 1] F = VT.leaf (b' true) [some (AO.cells [i' (n + 1)] 6),some (AO.cells [s' s] 18)] 1100 ((k1' n).a ((k2' s).a ((k3' n s).a ((k2' s).a ((k1' n).a ((k4' n s x).a (((Cnd.p True).a t').a ((f' (Wk (b' (decide (idxC k ↑x.toNat ≥ Int.ofNat 0))) j')).a ((k1' n).a ((k7' n).a (k8'.a t'))))))))))) := by kernel_rfl
theorem aM' (s k : ByteArray) (x : UInt8) (n : Nat) (F : HP) : wRun [(PF', PO')] (hSg x n false) [] default fSgn [sv k, .ptr 0 0, .ptr 1 0] (oN n s) [0, 1] F = VT.leaf (b' false) [some (AO.cells [i' n] 6),some (AO.cells [s' s] 18)] 1100 ((k1' n).a ((k2' s).a ((k3' n s).a ((k2' s).a ((k1' n).a ((k4' n s x).a (((Cnd.p True).a t').a ((f' (Wk (b' (decide (idxC k ↑x.toNat ≥ Int.ofNat 0))) g')).a t')))))))) := by kernel_rfl
theorem aN' (s k : ByteArray) (n : Nat) (F : HP) : wRun [(PF', PO')] (A9' [(fSgn, 1, 3, hv (.lit false))]) [] default fSgn [sv k, .ptr 0 0, .ptr 1 0] (oN n s) [0, 1] F = VT.leaf (b' false) [some (AO.cells [i' n] 6),some (AO.cells [s' s] 18)] 1100 ((k1' n).a ((k2' s).a ((k11' n s).a t'))) := by kernel_rfl
structure NS where
 a : Nat
 b : Nat
 m : Nat
 s : ByteArray
 k : ByteArray
def gNS2 (a b : Nat) (k : ByteArray) : AP NS := .read a fun o => match o with
 | .cells [.v (.int .i64 z)] _ => match z with
  | .ofNat m => .read b fun o2 => match o2 with
   | .cells [.v (.string s)] _ => .ret ⟨a, b, m, s, k⟩
   | _ => .fail "text"
  | _ => .fail "place"
 | _ => .fail "place"
def gDg : List AV → AP NS := fun args => match args with
 | [.ptr a _, .ptr b _] => gNS2 a b nil0
 | _ => .fail "digits"
def gSg : List AV → AP NS := fun args => match args with
 | [.v (.string k), .ptr a _, .ptr b _] => gNS2 a b k
 | _ => .fail "sign"
def nmNS (p : NS) : Nat → Nat := fun i => match Nat.beq i 0 with
 | true => p.a
 | false => p.b
def Few (n : Nat) : Prop := n ≤ 1099511627776
def bts (s : ByteArray) : List UInt8 := s.data.toList
def cDg : List AV → Option (AP AV) := mkC gDg (fun p => p.m ≤ p.s.size ∧ Few p.s.size) nmNS (fun _ => [.ptr 0 0, .ptr 1 0]) (fun p => oN p.m p.s) (fun p => .leaf .ret [bv (decide (p.m < digE (bts p.s) p.m))] (oN (digE (bts p.s) p.m) p.s))
def cSg : List AV → Option (AP AV) := mkC gSg (fun p => p.m ≤ p.s.size ∧ Few p.s.size) nmNS (fun p => [sv p.k, .ptr 0 0, .ptr 1 0]) (fun p => oN p.m p.s) (fun p => .leaf .ret [bv (sgn (bts p.k) (bts p.s) p.m)] (oN (sgE (bts p.k) (bts p.s) p.m) p.s))
theorem oNm_eq (W : World) (s : ByteArray) (F : HP) : wRun [(fDig, cDg), (fSgn, cSg)] DL' [] W fNum [sv s] [] [] F = VT.ite (!sgn [48] (bts s) (sgE [45] (bts s) 0)) (VT.ite (!decide (sgE [48] (bts s) (sgE [45] (bts s) 0) < digE (bts s) (sgE [48] (bts s) (sgE [45] (bts s) 0)))) (VT.leaf (AV.tuple [i' (digE (bts s) (sgE [48] (bts s) (sgE [45] (bts s) 0))),b' false]) [] 1102 (((p' (0 ≤ s.size ∧ Few s.size)).a ((p' (VW [s' (ByteArray.mk (Array.mk [45])),AV.ptr 1101 0,AV.ptr 1100 0] [s' (ByteArray.mk (Array.mk [45])),AV.ptr 1101 0,AV.ptr 1100 0])).a ((p' (OW (AO.cells [i' 0] 6) (AO.cells [i' 0] 6))).a (f' (OW (AO.cells [s' s] 18) (AO.cells [s' s] 18)))))).a (((p' (sgE [45] (bts s) 0 ≤ s.size ∧ Few s.size)).a ((p' (VW [s' (ByteArray.mk (Array.mk [48])),AV.ptr 1101 0,AV.ptr 1100 0] [s' (ByteArray.mk (Array.mk [48])),AV.ptr 1101 0,AV.ptr 1100 0])).a ((p' (OW (AO.cells [i' (sgE [45] (bts s) 0)] 6) (AO.cells [i' (sgE [45] (bts s) 0)] 6))).a (f' (OW (AO.cells [s' s] 18) (AO.cells [s' s] 18)))))).a (((p' (sgE [48] (bts s) (sgE [45] (bts s) 0) ≤ s.size ∧ Few s.size)).a ((p' (VW [AV.ptr 1101 0,AV.ptr 1100 0] [AV.ptr 1101 0,AV.ptr 1100 0])).a ((p' (OW (AO.cells [i' (sgE [48] (bts s) (sgE [45] (bts s) 0))] 6) (AO.cells [i' (sgE [48] (bts s) (sgE [45] (bts s) 0))] 6))).a (f' (OW (AO.cells [s' s] 18) (AO.cells [s' s] 18)))))).a (((p' (true = true)).a (f' (i' (digE (bts s) (sgE [48] (bts s) (sgE [45] (bts s) 0))) = i' (digE (bts s) (sgE [48] (bts s) (sgE [45] (bts s) 0)))))).a ((f' (true = true)).a ((p' (true = true)).a (f' (i' (digE (bts s) (sgE [48] (bts s) (sgE [45] (bts s) 0))) = i' (digE (bts s) (sgE [48] (bts s) (sgE [45] (bts s) 0)))))))))))) (VT.ite (sgn [46] (bts s) (digE (bts s) (sgE [48] (bts s) (sgE [45] (bts s) 0)))) (VT.ite (!decide (sgE [46] (bts s) (digE (bts s) (sgE [48] (bts s) (sgE [45] (bts s) 0))) < digE (bts s) (sgE [46] (bts s) (digE (bts s) (sgE [48] (bts s) (sgE [45] (bts s) 0)))))) (VT.leaf (AV.tuple [i' (digE (bts s) (sgE [46] (bts s) (digE (bts s) (sgE [48] (bts s) (sgE [45] (bts s) 0))))),b' false]) [] 1102 (((p' (0 ≤ s.size ∧ Few s.size)).a ((p' (VW [s' (ByteArray.mk (Array.mk [45])),AV.ptr 1101 0,AV.ptr 1100 0] [s' (ByteArray.mk (Array.mk [45])),AV.ptr 1101 0,AV.ptr 1100 0])).a ((p' (OW (AO.cells [i' 0] 6) (AO.cells [i' 0] 6))).a (f' (OW (AO.cells [s' s] 18) (AO.cells [s' s] 18)))))).a (((p' (sgE [45] (bts s) 0 ≤ s.size ∧ Few s.size)).a ((p' (VW [s' (ByteArray.mk (Array.mk [48])),AV.ptr 1101 0,AV.ptr 1100 0] [s' (ByteArray.mk (Array.mk [48])),AV.ptr 1101 0,AV.ptr 1100 0])).a ((p' (OW (AO.cells [i' (sgE [45] (bts s) 0)] 6) (AO.cells [i' (sgE [45] (bts s) 0)] 6))).a (f' (OW (AO.cells [s' s] 18) (AO.cells [s' s] 18)))))).a (((p' (sgE [48] (bts s) (sgE [45] (bts s) 0) ≤ s.size ∧ Few s.size)).a ((p' (VW [AV.ptr 1101 0,AV.ptr 1100 0] [AV.ptr 1101 0,AV.ptr 1100 0])).a ((p' (OW (AO.cells [i' (sgE [48] (bts s) (sgE [45] (bts s) 0))] 6) (AO.cells [i' (sgE [48] (bts s) (sgE [45] (bts s) 0))] 6))).a (f' (OW (AO.cells [s' s] 18) (AO.cells [s' s] 18)))))).a (((p' (digE (bts s) (sgE [48] (bts s) (sgE [45] (bts s) 0)) ≤ s.size ∧ Few s.size)).a ((p' (VW [s' (ByteArray.mk (Array.mk [46])),AV.ptr 1101 0,AV.ptr 1100 0] [s' (ByteArray.mk (Array.mk [46])),AV.ptr 1101 0,AV.ptr 1100 0])).a ((p' (OW (AO.cells [i' (digE (bts s) (sgE [48] (bts s) (sgE [45] (bts s) 0)))] 6) (AO.cells [i' (digE (bts s) (sgE [48] (bts s) (sgE [45] (bts s) 0)))] 6))).a (f' (OW (AO.cells [s' s] 18) (AO.cells [s' s] 18)))))).a (((p' (sgE [46] (bts s) (digE (bts s) (sgE [48] (bts s) (sgE [45] (bts s) 0))) ≤ s.size ∧ Few s.size)).a ((p' (VW [AV.ptr 1101 0,AV.ptr 1100 0] [AV.ptr 1101 0,AV.ptr 1100 0])).a ((p' (OW (AO.cells [i' (sgE [46] (bts s) (digE (bts s) (sgE [48] (bts s) (sgE [45] (bts s) 0))))] 6) (AO.cells [i' (sgE [46] (bts s) (digE (bts s) (sgE [48] (bts s) (sgE [45] (bts s) 0))))] 6))).a (f' (OW (AO.cells [s' s] 18) (AO.cells [s' s] 18)))))).a (((p' (true = true)).a (f' (i' (digE (bts s) (sgE [46] (bts s) (digE (bts s) (sgE [48] (bts s) (sgE [45] (bts s) 0))))) = i' (digE (bts s) (sgE [46] (bts s) (digE (bts s) (sgE [48] (bts s) (sgE [45] (bts s) 0)))))))).a ((f' (true = true)).a ((p' (true = true)).a (f' (i' (digE (bts s) (sgE [46] (bts s) (digE (bts s) (sgE [48] (bts s) (sgE [45] (bts s) 0))))) = i' (digE (bts s) (sgE [46] (bts s) (digE (bts s) (sgE [48] (bts s) (sgE [45] (bts s) 0)))))))))))))))) (VT.ite (sgn [101,69] (bts s) (digE (bts s) (sgE [46] (bts s) (digE (bts s) (sgE [48] (bts s) (sgE [45] (bts s) 0)))))) (VT.ite (!decide (sgE [43,45] (bts s) (sgE [101,69] (bts s) (digE (bts s) (sgE [46] (bts s) (digE (bts s) (sgE [48] (bts s) (sgE [45] (bts s) 0)))))) < digE (bts s) (sgE [43,45] (bts s) (sgE [101,69] (bts s) (digE (bts s) (sgE [46] (bts s) (digE (bts s) (sgE [48] (bts s) (sgE [45] (bts s) 0))))))))) (VT.leaf (AV.tuple [i' (digE (bts s) (sgE [43,45] (bts s) (sgE [101,69] (bts s) (digE (bts s) (sgE [46] (bts s) (digE (bts s) (sgE [48] (bts s) (sgE [45] (bts s) 0)))))))),b' false]) [] 1102 (((p' (0 ≤ s.size ∧ Few s.size)).a ((p' (VW [s' (ByteArray.mk (Array.mk [45])),AV.ptr 1101 0,AV.ptr 1100 0] [s' (ByteArray.mk (Array.mk [45])),AV.ptr 1101 0,AV.ptr 1100 0])).a ((p' (OW (AO.cells [i' 0] 6) (AO.cells [i' 0] 6))).a (f' (OW (AO.cells [s' s] 18) (AO.cells [s' s] 18)))))).a (((p' (sgE [45] (bts s) 0 ≤ s.size ∧ Few s.size)).a ((p' (VW [s' (ByteArray.mk (Array.mk [48])),AV.ptr 1101 0,AV.ptr 1100 0] [s' (ByteArray.mk (Array.mk [48])),AV.ptr 1101 0,AV.ptr 1100 0])).a ((p' (OW (AO.cells [i' (sgE [45] (bts s) 0)] 6) (AO.cells [i' (sgE [45] (bts s) 0)] 6))).a (f' (OW (AO.cells [s' s] 18) (AO.cells [s' s] 18)))))).a (((p' (sgE [48] (bts s) (sgE [45] (bts s) 0) ≤ s.size ∧ Few s.size)).a ((p' (VW [AV.ptr 1101 0,AV.ptr 1100 0] [AV.ptr 1101 0,AV.ptr 1100 0])).a ((p' (OW (AO.cells [i' (sgE [48] (bts s) (sgE [45] (bts s) 0))] 6) (AO.cells [i' (sgE [48] (bts s) (sgE [45] (bts s) 0))] 6))).a (f' (OW (AO.cells [s' s] 18) (AO.cells [s' s] 18)))))).a (((p' (digE (bts s) (sgE [48] (bts s) (sgE [45] (bts s) 0)) ≤ s.size ∧ Few s.size)).a ((p' (VW [s' (ByteArray.mk (Array.mk [46])),AV.ptr 1101 0,AV.ptr 1100 0] [s' (ByteArray.mk (Array.mk [46])),AV.ptr 1101 0,AV.ptr 1100 0])).a ((p' (OW (AO.cells [i' (digE (bts s) (sgE [48] (bts s) (sgE [45] (bts s) 0)))] 6) (AO.cells [i' (digE (bts s) (sgE [48] (bts s) (sgE [45] (bts s) 0)))] 6))).a (f' (OW (AO.cells [s' s] 18) (AO.cells [s' s] 18)))))).a (((p' (sgE [46] (bts s) (digE (bts s) (sgE [48] (bts s) (sgE [45] (bts s) 0))) ≤ s.size ∧ Few s.size)).a ((p' (VW [AV.ptr 1101 0,AV.ptr 1100 0] [AV.ptr 1101 0,AV.ptr 1100 0])).a ((p' (OW (AO.cells [i' (sgE [46] (bts s) (digE (bts s) (sgE [48] (bts s) (sgE [45] (bts s) 0))))] 6) (AO.cells [i' (sgE [46] (bts s) (digE (bts s) (sgE [48] (bts s) (sgE [45] (bts s) 0))))] 6))).a (f' (OW (AO.cells [s' s] 18) (AO.cells [s' s] 18)))))).a (((p' (digE (bts s) (sgE [46] (bts s) (digE (bts s) (sgE [48] (bts s) (sgE [45] (bts s) 0)))) ≤ s.size ∧ Few s.size)).a ((p' (VW [s' (ByteArray.mk (Array.mk [101,69])),AV.ptr 1101 0,AV.ptr 1100 0] [s' (ByteArray.mk (Array.mk [101,69])),AV.ptr 1101 0,AV.ptr 1100 0])).a ((p' (OW (AO.cells [i' (digE (bts s) (sgE [46] (bts s) (digE (bts s) (sgE [48] (bts s) (sgE [45] (bts s) 0)))))] 6) (AO.cells [i' (digE (bts s) (sgE [46] (bts s) (digE (bts s) (sgE [48] (bts s) (sgE [45] (bts s) 0)))))] 6))).a (f' (OW (AO.cells [s' s] 18) (AO.cells [s' s] 18)))))).a (((p' (sgE [101,69] (bts s) (digE (bts s) (sgE [46] (bts s) (digE (bts s) (sgE [48] (bts s) (sgE [45] (bts s) 0))))) ≤ s.size ∧ Few s.size)).a ((p' (VW [s' (ByteArray.mk (Array.mk [43,45])),AV.ptr 1101 0,AV.ptr 1100 0] [s' (ByteArray.mk (Array.mk [43,45])),AV.ptr 1101 0,AV.ptr 1100 0])).a ((p' (OW (AO.cells [i' (sgE [101,69] (bts s) (digE (bts s) (sgE [46] (bts s) (digE (bts s) (sgE [48] (bts s) (sgE [45] (bts s) 0))))))] 6) (AO.cells [i' (sgE [101,69] (bts s) (digE (bts s) (sgE [46] (bts s) (digE (bts s) (sgE [48] (bts s) (sgE [45] (bts s) 0))))))] 6))).a (f' (OW (AO.cells [s' s] 18) (AO.cells [s' s] 18)))))).a (((p' (sgE [43,45] (bts s) (sgE [101,69] (bts s) (digE (bts s) (sgE [46] (bts s) (digE (bts s) (sgE [48] (bts s) (sgE [45] (bts s) 0)))))) ≤ s.size ∧ Few s.size)).a ((p' (VW [AV.ptr 1101 0,AV.ptr 1100 0] [AV.ptr 1101 0,AV.ptr 1100 0])).a ((p' (OW (AO.cells [i' (sgE [43,45] (bts s) (sgE [101,69] (bts s) (digE (bts s) (sgE [46] (bts s) (digE (bts s) (sgE [48] (bts s) (sgE [45] (bts s) 0)))))))] 6) (AO.cells [i' (sgE [43,45] (bts s) (sgE [101,69] (bts s) (digE (bts s) (sgE [46] (bts s) (digE (bts s) (sgE [48] (bts s) (sgE [45] (bts s) 0)))))))] 6))).a (f' (OW (AO.cells [s' s] 18) (AO.cells [s' s] 18)))))).a (((p' (true = true)).a (f' (i' (digE (bts s) (sgE [43,45] (bts s) (sgE [101,69] (bts s) (digE (bts s) (sgE [46] (bts s) (digE (bts s) (sgE [48] (bts s) (sgE [45] (bts s) 0)))))))) = i' (digE (bts s) (sgE [43,45] (bts s) (sgE [101,69] (bts s) (digE (bts s) (sgE [46] (bts s) (digE (bts s) (sgE [48] (bts s) (sgE [45] (bts s) 0))))))))))).a ((f' (true = true)).a ((p' (true = true)).a (f' (i' (digE (bts s) (sgE [43,45] (bts s) (sgE [101,69] (bts s) (digE (bts s) (sgE [46] (bts s) (digE (bts s) (sgE [48] (bts s) (sgE [45] (bts s) 0)))))))) = i' (digE (bts s) (sgE [43,45] (bts s) (sgE [101,69] (bts s) (digE (bts s) (sgE [46] (bts s) (digE (bts s) (sgE [48] (bts s) (sgE [45] (bts s) 0)))))))))))))))))))))) (VT.leaf (AV.tuple [i' (digE (bts s) (sgE [43,45] (bts s) (sgE [101,69] (bts s) (digE (bts s) (sgE [46] (bts s) (digE (bts s) (sgE [48] (bts s) (sgE [45] (bts s) 0)))))))),b' true]) [] 1102 (((p' (0 ≤ s.size ∧ Few s.size)).a ((p' (VW [s' (ByteArray.mk (Array.mk [45])),AV.ptr 1101 0,AV.ptr 1100 0] [s' (ByteArray.mk (Array.mk [45])),AV.ptr 1101 0,AV.ptr 1100 0])).a ((p' (OW (AO.cells [i' 0] 6) (AO.cells [i' 0] 6))).a (f' (OW (AO.cells [s' s] 18) (AO.cells [s' s] 18)))))).a (((p' (sgE [45] (bts s) 0 ≤ s.size ∧ Few s.size)).a ((p' (VW [s' (ByteArray.mk (Array.mk [48])),AV.ptr 1101 0,AV.ptr 1100 0] [s' (ByteArray.mk (Array.mk [48])),AV.ptr 1101 0,AV.ptr 1100 0])).a ((p' (OW (AO.cells [i' (sgE [45] (bts s) 0)] 6) (AO.cells [i' (sgE [45] (bts s) 0)] 6))).a (f' (OW (AO.cells [s' s] 18) (AO.cells [s' s] 18)))))).a (((p' (sgE [48] (bts s) (sgE [45] (bts s) 0) ≤ s.size ∧ Few s.size)).a ((p' (VW [AV.ptr 1101 0,AV.ptr 1100 0] [AV.ptr 1101 0,AV.ptr 1100 0])).a ((p' (OW (AO.cells [i' (sgE [48] (bts s) (sgE [45] (bts s) 0))] 6) (AO.cells [i' (sgE [48] (bts s) (sgE [45] (bts s) 0))] 6))).a (f' (OW (AO.cells [s' s] 18) (AO.cells [s' s] 18)))))).a (((p' (digE (bts s) (sgE [48] (bts s) (sgE [45] (bts s) 0)) ≤ s.size ∧ Few s.size)).a ((p' (VW [s' (ByteArray.mk (Array.mk [46])),AV.ptr 1101 0,AV.ptr 1100 0] [s' (ByteArray.mk (Array.mk [46])),AV.ptr 1101 0,AV.ptr 1100 0])).a ((p' (OW (AO.cells [i' (digE (bts s) (sgE [48] (bts s) (sgE [45] (bts s) 0)))] 6) (AO.cells [i' (digE (bts s) (sgE [48] (bts s) (sgE [45] (bts s) 0)))] 6))).a (f' (OW (AO.cells [s' s] 18) (AO.cells [s' s] 18)))))).a (((p' (sgE [46] (bts s) (digE (bts s) (sgE [48] (bts s) (sgE [45] (bts s) 0))) ≤ s.size ∧ Few s.size)).a ((p' (VW [AV.ptr 1101 0,AV.ptr 1100 0] [AV.ptr 1101 0,AV.ptr 1100 0])).a ((p' (OW (AO.cells [i' (sgE [46] (bts s) (digE (bts s) (sgE [48] (bts s) (sgE [45] (bts s) 0))))] 6) (AO.cells [i' (sgE [46] (bts s) (digE (bts s) (sgE [48] (bts s) (sgE [45] (bts s) 0))))] 6))).a (f' (OW (AO.cells [s' s] 18) (AO.cells [s' s] 18)))))).a (((p' (digE (bts s) (sgE [46] (bts s) (digE (bts s) (sgE [48] (bts s) (sgE [45] (bts s) 0)))) ≤ s.size ∧ Few s.size)).a ((p' (VW [s' (ByteArray.mk (Array.mk [101,69])),AV.ptr 1101 0,AV.ptr 1100 0] [s' (ByteArray.mk (Array.mk [101,69])),AV.ptr 1101 0,AV.ptr 1100 0])).a ((p' (OW (AO.cells [i' (digE (bts s) (sgE [46] (bts s) (digE (bts s) (sgE [48] (bts s) (sgE [45] (bts s) 0)))))] 6) (AO.cells [i' (digE (bts s) (sgE [46] (bts s) (digE (bts s) (sgE [48] (bts s) (sgE [45] (bts s) 0)))))] 6))).a (f' (OW (AO.cells [s' s] 18) (AO.cells [s' s] 18)))))).a (((p' (sgE [101,69] (bts s) (digE (bts s) (sgE [46] (bts s) (digE (bts s) (sgE [48] (bts s) (sgE [45] (bts s) 0))))) ≤ s.size ∧ Few s.size)).a ((p' (VW [s' (ByteArray.mk (Array.mk [43,45])),AV.ptr 1101 0,AV.ptr 1100 0] [s' (ByteArray.mk (Array.mk [43,45])),AV.ptr 1101 0,AV.ptr 1100 0])).a ((p' (OW (AO.cells [i' (sgE [101,69] (bts s) (digE (bts s) (sgE [46] (bts s) (digE (bts s) (sgE [48] (bts s) (sgE [45] (bts s) 0))))))] 6) (AO.cells [i' (sgE [101,69] (bts s) (digE (bts s) (sgE [46] (bts s) (digE (bts s) (sgE [48] (bts s) (sgE [45] (bts s) 0))))))] 6))).a (f' (OW (AO.cells [s' s] 18) (AO.cells [s' s] 18)))))).a (((p' (sgE [43,45] (bts s) (sgE [101,69] (bts s) (digE (bts s) (sgE [46] (bts s) (digE (bts s) (sgE [48] (bts s) (sgE [45] (bts s) 0)))))) ≤ s.size ∧ Few s.size)).a ((p' (VW [AV.ptr 1101 0,AV.ptr 1100 0] [AV.ptr 1101 0,AV.ptr 1100 0])).a ((p' (OW (AO.cells [i' (sgE [43,45] (bts s) (sgE [101,69] (bts s) (digE (bts s) (sgE [46] (bts s) (digE (bts s) (sgE [48] (bts s) (sgE [45] (bts s) 0)))))))] 6) (AO.cells [i' (sgE [43,45] (bts s) (sgE [101,69] (bts s) (digE (bts s) (sgE [46] (bts s) (digE (bts s) (sgE [48] (bts s) (sgE [45] (bts s) 0)))))))] 6))).a (f' (OW (AO.cells [s' s] 18) (AO.cells [s' s] 18)))))).a (((p' (true = true)).a (f' (i' (digE (bts s) (sgE [43,45] (bts s) (sgE [101,69] (bts s) (digE (bts s) (sgE [46] (bts s) (digE (bts s) (sgE [48] (bts s) (sgE [45] (bts s) 0)))))))) = i' (digE (bts s) (sgE [43,45] (bts s) (sgE [101,69] (bts s) (digE (bts s) (sgE [46] (bts s) (digE (bts s) (sgE [48] (bts s) (sgE [45] (bts s) 0))))))))))).a ((f' (true = true)).a ((p' (true = true)).a (f' (i' (digE (bts s) (sgE [43,45] (bts s) (sgE [101,69] (bts s) (digE (bts s) (sgE [46] (bts s) (digE (bts s) (sgE [48] (bts s) (sgE [45] (bts s) 0)))))))) = i' (digE (bts s) (sgE [43,45] (bts s) (sgE [101,69] (bts s) (digE (bts s) (sgE [46] (bts s) (digE (bts s) (sgE [48] (bts s) (sgE [45] (bts s) 0))))))))))))))))))))))) (VT.leaf (AV.tuple [i' (sgE [101,69] (bts s) (digE (bts s) (sgE [46] (bts s) (digE (bts s) (sgE [48] (bts s) (sgE [45] (bts s) 0)))))),b' true]) [] 1102 (((p' (0 ≤ s.size ∧ Few s.size)).a ((p' (VW [s' (ByteArray.mk (Array.mk [45])),AV.ptr 1101 0,AV.ptr 1100 0] [s' (ByteArray.mk (Array.mk [45])),AV.ptr 1101 0,AV.ptr 1100 0])).a ((p' (OW (AO.cells [i' 0] 6) (AO.cells [i' 0] 6))).a (f' (OW (AO.cells [s' s] 18) (AO.cells [s' s] 18)))))).a (((p' (sgE [45] (bts s) 0 ≤ s.size ∧ Few s.size)).a ((p' (VW [s' (ByteArray.mk (Array.mk [48])),AV.ptr 1101 0,AV.ptr 1100 0] [s' (ByteArray.mk (Array.mk [48])),AV.ptr 1101 0,AV.ptr 1100 0])).a ((p' (OW (AO.cells [i' (sgE [45] (bts s) 0)] 6) (AO.cells [i' (sgE [45] (bts s) 0)] 6))).a (f' (OW (AO.cells [s' s] 18) (AO.cells [s' s] 18)))))).a (((p' (sgE [48] (bts s) (sgE [45] (bts s) 0) ≤ s.size ∧ Few s.size)).a ((p' (VW [AV.ptr 1101 0,AV.ptr 1100 0] [AV.ptr 1101 0,AV.ptr 1100 0])).a ((p' (OW (AO.cells [i' (sgE [48] (bts s) (sgE [45] (bts s) 0))] 6) (AO.cells [i' (sgE [48] (bts s) (sgE [45] (bts s) 0))] 6))).a (f' (OW (AO.cells [s' s] 18) (AO.cells [s' s] 18)))))).a (((p' (digE (bts s) (sgE [48] (bts s) (sgE [45] (bts s) 0)) ≤ s.size ∧ Few s.size)).a ((p' (VW [s' (ByteArray.mk (Array.mk [46])),AV.ptr 1101 0,AV.ptr 1100 0] [s' (ByteArray.mk (Array.mk [46])),AV.ptr 1101 0,AV.ptr 1100 0])).a ((p' (OW (AO.cells [i' (digE (bts s) (sgE [48] (bts s) (sgE [45] (bts s) 0)))] 6) (AO.cells [i' (digE (bts s) (sgE [48] (bts s) (sgE [45] (bts s) 0)))] 6))).a (f' (OW (AO.cells [s' s] 18) (AO.cells [s' s] 18)))))).a (((p' (sgE [46] (bts s) (digE (bts s) (sgE [48] (bts s) (sgE [45] (bts s) 0))) ≤ s.size ∧ Few s.size)).a ((p' (VW [AV.ptr 1101 0,AV.ptr 1100 0] [AV.ptr 1101 0,AV.ptr 1100 0])).a ((p' (OW (AO.cells [i' (sgE [46] (bts s) (digE (bts s) (sgE [48] (bts s) (sgE [45] (bts s) 0))))] 6) (AO.cells [i' (sgE [46] (bts s) (digE (bts s) (sgE [48] (bts s) (sgE [45] (bts s) 0))))] 6))).a (f' (OW (AO.cells [s' s] 18) (AO.cells [s' s] 18)))))).a (((p' (digE (bts s) (sgE [46] (bts s) (digE (bts s) (sgE [48] (bts s) (sgE [45] (bts s) 0)))) ≤ s.size ∧ Few s.size)).a ((p' (VW [s' (ByteArray.mk (Array.mk [101,69])),AV.ptr 1101 0,AV.ptr 1100 0] [s' (ByteArray.mk (Array.mk [101,69])),AV.ptr 1101 0,AV.ptr 1100 0])).a ((p' (OW (AO.cells [i' (digE (bts s) (sgE [46] (bts s) (digE (bts s) (sgE [48] (bts s) (sgE [45] (bts s) 0)))))] 6) (AO.cells [i' (digE (bts s) (sgE [46] (bts s) (digE (bts s) (sgE [48] (bts s) (sgE [45] (bts s) 0)))))] 6))).a (f' (OW (AO.cells [s' s] 18) (AO.cells [s' s] 18)))))).a (((p' (true = true)).a (f' (i' (sgE [101,69] (bts s) (digE (bts s) (sgE [46] (bts s) (digE (bts s) (sgE [48] (bts s) (sgE [45] (bts s) 0)))))) = i' (sgE [101,69] (bts s) (digE (bts s) (sgE [46] (bts s) (digE (bts s) (sgE [48] (bts s) (sgE [45] (bts s) 0))))))))).a ((f' (true = true)).a ((p' (true = true)).a (f' (i' (sgE [101,69] (bts s) (digE (bts s) (sgE [46] (bts s) (digE (bts s) (sgE [48] (bts s) (sgE [45] (bts s) 0)))))) = i' (sgE [101,69] (bts s) (digE (bts s) (sgE [46] (bts s) (digE (bts s) (sgE [48] (bts s) (sgE [45] (bts s) 0)))))))))))))))))))) (VT.ite (sgn [101,69] (bts s) (sgE [46] (bts s) (digE (bts s) (sgE [48] (bts s) (sgE [45] (bts s) 0))))) (VT.ite (!decide (sgE [43,45] (bts s) (sgE [101,69] (bts s) (sgE [46] (bts s) (digE (bts s) (sgE [48] (bts s) (sgE [45] (bts s) 0))))) < digE (bts s) (sgE [43,45] (bts s) (sgE [101,69] (bts s) (sgE [46] (bts s) (digE (bts s) (sgE [48] (bts s) (sgE [45] (bts s) 0)))))))) (VT.leaf (AV.tuple [i' (digE (bts s) (sgE [43,45] (bts s) (sgE [101,69] (bts s) (sgE [46] (bts s) (digE (bts s) (sgE [48] (bts s) (sgE [45] (bts s) 0))))))),b' false]) [] 1102 (((p' (0 ≤ s.size ∧ Few s.size)).a ((p' (VW [s' (ByteArray.mk (Array.mk [45])),AV.ptr 1101 0,AV.ptr 1100 0] [s' (ByteArray.mk (Array.mk [45])),AV.ptr 1101 0,AV.ptr 1100 0])).a ((p' (OW (AO.cells [i' 0] 6) (AO.cells [i' 0] 6))).a (f' (OW (AO.cells [s' s] 18) (AO.cells [s' s] 18)))))).a (((p' (sgE [45] (bts s) 0 ≤ s.size ∧ Few s.size)).a ((p' (VW [s' (ByteArray.mk (Array.mk [48])),AV.ptr 1101 0,AV.ptr 1100 0] [s' (ByteArray.mk (Array.mk [48])),AV.ptr 1101 0,AV.ptr 1100 0])).a ((p' (OW (AO.cells [i' (sgE [45] (bts s) 0)] 6) (AO.cells [i' (sgE [45] (bts s) 0)] 6))).a (f' (OW (AO.cells [s' s] 18) (AO.cells [s' s] 18)))))).a (((p' (sgE [48] (bts s) (sgE [45] (bts s) 0) ≤ s.size ∧ Few s.size)).a ((p' (VW [AV.ptr 1101 0,AV.ptr 1100 0] [AV.ptr 1101 0,AV.ptr 1100 0])).a ((p' (OW (AO.cells [i' (sgE [48] (bts s) (sgE [45] (bts s) 0))] 6) (AO.cells [i' (sgE [48] (bts s) (sgE [45] (bts s) 0))] 6))).a (f' (OW (AO.cells [s' s] 18) (AO.cells [s' s] 18)))))).a (((p' (digE (bts s) (sgE [48] (bts s) (sgE [45] (bts s) 0)) ≤ s.size ∧ Few s.size)).a ((p' (VW [s' (ByteArray.mk (Array.mk [46])),AV.ptr 1101 0,AV.ptr 1100 0] [s' (ByteArray.mk (Array.mk [46])),AV.ptr 1101 0,AV.ptr 1100 0])).a ((p' (OW (AO.cells [i' (digE (bts s) (sgE [48] (bts s) (sgE [45] (bts s) 0)))] 6) (AO.cells [i' (digE (bts s) (sgE [48] (bts s) (sgE [45] (bts s) 0)))] 6))).a (f' (OW (AO.cells [s' s] 18) (AO.cells [s' s] 18)))))).a (((p' (sgE [46] (bts s) (digE (bts s) (sgE [48] (bts s) (sgE [45] (bts s) 0))) ≤ s.size ∧ Few s.size)).a ((p' (VW [s' (ByteArray.mk (Array.mk [101,69])),AV.ptr 1101 0,AV.ptr 1100 0] [s' (ByteArray.mk (Array.mk [101,69])),AV.ptr 1101 0,AV.ptr 1100 0])).a ((p' (OW (AO.cells [i' (sgE [46] (bts s) (digE (bts s) (sgE [48] (bts s) (sgE [45] (bts s) 0))))] 6) (AO.cells [i' (sgE [46] (bts s) (digE (bts s) (sgE [48] (bts s) (sgE [45] (bts s) 0))))] 6))).a (f' (OW (AO.cells [s' s] 18) (AO.cells [s' s] 18)))))).a (((p' (sgE [101,69] (bts s) (sgE [46] (bts s) (digE (bts s) (sgE [48] (bts s) (sgE [45] (bts s) 0)))) ≤ s.size ∧ Few s.size)).a ((p' (VW [s' (ByteArray.mk (Array.mk [43,45])),AV.ptr 1101 0,AV.ptr 1100 0] [s' (ByteArray.mk (Array.mk [43,45])),AV.ptr 1101 0,AV.ptr 1100 0])).a ((p' (OW (AO.cells [i' (sgE [101,69] (bts s) (sgE [46] (bts s) (digE (bts s) (sgE [48] (bts s) (sgE [45] (bts s) 0)))))] 6) (AO.cells [i' (sgE [101,69] (bts s) (sgE [46] (bts s) (digE (bts s) (sgE [48] (bts s) (sgE [45] (bts s) 0)))))] 6))).a (f' (OW (AO.cells [s' s] 18) (AO.cells [s' s] 18)))))).a (((p' (sgE [43,45] (bts s) (sgE [101,69] (bts s) (sgE [46] (bts s) (digE (bts s) (sgE [48] (bts s) (sgE [45] (bts s) 0))))) ≤ s.size ∧ Few s.size)).a ((p' (VW [AV.ptr 1101 0,AV.ptr 1100 0] [AV.ptr 1101 0,AV.ptr 1100 0])).a ((p' (OW (AO.cells [i' (sgE [43,45] (bts s) (sgE [101,69] (bts s) (sgE [46] (bts s) (digE (bts s) (sgE [48] (bts s) (sgE [45] (bts s) 0))))))] 6) (AO.cells [i' (sgE [43,45] (bts s) (sgE [101,69] (bts s) (sgE [46] (bts s) (digE (bts s) (sgE [48] (bts s) (sgE [45] (bts s) 0))))))] 6))).a (f' (OW (AO.cells [s' s] 18) (AO.cells [s' s] 18)))))).a (((p' (true = true)).a (f' (i' (digE (bts s) (sgE [43,45] (bts s) (sgE [101,69] (bts s) (sgE [46] (bts s) (digE (bts s) (sgE [48] (bts s) (sgE [45] (bts s) 0))))))) = i' (digE (bts s) (sgE [43,45] (bts s) (sgE [101,69] (bts s) (sgE [46] (bts s) (digE (bts s) (sgE [48] (bts s) (sgE [45] (bts s) 0)))))))))).a ((f' (true = true)).a ((p' (true = true)).a (f' (i' (digE (bts s) (sgE [43,45] (bts s) (sgE [101,69] (bts s) (sgE [46] (bts s) (digE (bts s) (sgE [48] (bts s) (sgE [45] (bts s) 0))))))) = i' (digE (bts s) (sgE [43,45] (bts s) (sgE [101,69] (bts s) (sgE [46] (bts s) (digE (bts s) (sgE [48] (bts s) (sgE [45] (bts s) 0)))))))))))))))))))) (VT.leaf (AV.tuple [i' (digE (bts s) (sgE [43,45] (bts s) (sgE [101,69] (bts s) (sgE [46] (bts s) (digE (bts s) (sgE [48] (bts s) (sgE [45] (bts s) 0))))))),b' true]) [] 1102 (((p' (0 ≤ s.size ∧ Few s.size)).a ((p' (VW [s' (ByteArray.mk (Array.mk [45])),AV.ptr 1101 0,AV.ptr 1100 0] [s' (ByteArray.mk (Array.mk [45])),AV.ptr 1101 0,AV.ptr 1100 0])).a ((p' (OW (AO.cells [i' 0] 6) (AO.cells [i' 0] 6))).a (f' (OW (AO.cells [s' s] 18) (AO.cells [s' s] 18)))))).a (((p' (sgE [45] (bts s) 0 ≤ s.size ∧ Few s.size)).a ((p' (VW [s' (ByteArray.mk (Array.mk [48])),AV.ptr 1101 0,AV.ptr 1100 0] [s' (ByteArray.mk (Array.mk [48])),AV.ptr 1101 0,AV.ptr 1100 0])).a ((p' (OW (AO.cells [i' (sgE [45] (bts s) 0)] 6) (AO.cells [i' (sgE [45] (bts s) 0)] 6))).a (f' (OW (AO.cells [s' s] 18) (AO.cells [s' s] 18)))))).a (((p' (sgE [48] (bts s) (sgE [45] (bts s) 0) ≤ s.size ∧ Few s.size)).a ((p' (VW [AV.ptr 1101 0,AV.ptr 1100 0] [AV.ptr 1101 0,AV.ptr 1100 0])).a ((p' (OW (AO.cells [i' (sgE [48] (bts s) (sgE [45] (bts s) 0))] 6) (AO.cells [i' (sgE [48] (bts s) (sgE [45] (bts s) 0))] 6))).a (f' (OW (AO.cells [s' s] 18) (AO.cells [s' s] 18)))))).a (((p' (digE (bts s) (sgE [48] (bts s) (sgE [45] (bts s) 0)) ≤ s.size ∧ Few s.size)).a ((p' (VW [s' (ByteArray.mk (Array.mk [46])),AV.ptr 1101 0,AV.ptr 1100 0] [s' (ByteArray.mk (Array.mk [46])),AV.ptr 1101 0,AV.ptr 1100 0])).a ((p' (OW (AO.cells [i' (digE (bts s) (sgE [48] (bts s) (sgE [45] (bts s) 0)))] 6) (AO.cells [i' (digE (bts s) (sgE [48] (bts s) (sgE [45] (bts s) 0)))] 6))).a (f' (OW (AO.cells [s' s] 18) (AO.cells [s' s] 18)))))).a (((p' (sgE [46] (bts s) (digE (bts s) (sgE [48] (bts s) (sgE [45] (bts s) 0))) ≤ s.size ∧ Few s.size)).a ((p' (VW [s' (ByteArray.mk (Array.mk [101,69])),AV.ptr 1101 0,AV.ptr 1100 0] [s' (ByteArray.mk (Array.mk [101,69])),AV.ptr 1101 0,AV.ptr 1100 0])).a ((p' (OW (AO.cells [i' (sgE [46] (bts s) (digE (bts s) (sgE [48] (bts s) (sgE [45] (bts s) 0))))] 6) (AO.cells [i' (sgE [46] (bts s) (digE (bts s) (sgE [48] (bts s) (sgE [45] (bts s) 0))))] 6))).a (f' (OW (AO.cells [s' s] 18) (AO.cells [s' s] 18)))))).a (((p' (sgE [101,69] (bts s) (sgE [46] (bts s) (digE (bts s) (sgE [48] (bts s) (sgE [45] (bts s) 0)))) ≤ s.size ∧ Few s.size)).a ((p' (VW [s' (ByteArray.mk (Array.mk [43,45])),AV.ptr 1101 0,AV.ptr 1100 0] [s' (ByteArray.mk (Array.mk [43,45])),AV.ptr 1101 0,AV.ptr 1100 0])).a ((p' (OW (AO.cells [i' (sgE [101,69] (bts s) (sgE [46] (bts s) (digE (bts s) (sgE [48] (bts s) (sgE [45] (bts s) 0)))))] 6) (AO.cells [i' (sgE [101,69] (bts s) (sgE [46] (bts s) (digE (bts s) (sgE [48] (bts s) (sgE [45] (bts s) 0)))))] 6))).a (f' (OW (AO.cells [s' s] 18) (AO.cells [s' s] 18)))))).a (((p' (sgE [43,45] (bts s) (sgE [101,69] (bts s) (sgE [46] (bts s) (digE (bts s) (sgE [48] (bts s) (sgE [45] (bts s) 0))))) ≤ s.size ∧ Few s.size)).a ((p' (VW [AV.ptr 1101 0,AV.ptr 1100 0] [AV.ptr 1101 0,AV.ptr 1100 0])).a ((p' (OW (AO.cells [i' (sgE [43,45] (bts s) (sgE [101,69] (bts s) (sgE [46] (bts s) (digE (bts s) (sgE [48] (bts s) (sgE [45] (bts s) 0))))))] 6) (AO.cells [i' (sgE [43,45] (bts s) (sgE [101,69] (bts s) (sgE [46] (bts s) (digE (bts s) (sgE [48] (bts s) (sgE [45] (bts s) 0))))))] 6))).a (f' (OW (AO.cells [s' s] 18) (AO.cells [s' s] 18)))))).a (((p' (true = true)).a (f' (i' (digE (bts s) (sgE [43,45] (bts s) (sgE [101,69] (bts s) (sgE [46] (bts s) (digE (bts s) (sgE [48] (bts s) (sgE [45] (bts s) 0))))))) = i' (digE (bts s) (sgE [43,45] (bts s) (sgE [101,69] (bts s) (sgE [46] (bts s) (digE (bts s) (sgE [48] (bts s) (sgE [45] (bts s) 0)))))))))).a ((f' (true = true)).a ((p' (true = true)).a (f' (i' (digE (bts s) (sgE [43,45] (bts s) (sgE [101,69] (bts s) (sgE [46] (bts s) (digE (bts s) (sgE [48] (bts s) (sgE [45] (bts s) 0))))))) = i' (digE (bts s) (sgE [43,45] (bts s) (sgE [101,69] (bts s) (sgE [46] (bts s) (digE (bts s) (sgE [48] (bts s) (sgE [45] (bts s) 0))))))))))))))))))))) (VT.leaf (AV.tuple [i' (sgE [101,69] (bts s) (sgE [46] (bts s) (digE (bts s) (sgE [48] (bts s) (sgE [45] (bts s) 0))))),b' true]) [] 1102 (((p' (0 ≤ s.size ∧ Few s.size)).a ((p' (VW [s' (ByteArray.mk (Array.mk [45])),AV.ptr 1101 0,AV.ptr 1100 0] [s' (ByteArray.mk (Array.mk [45])),AV.ptr 1101 0,AV.ptr 1100 0])).a ((p' (OW (AO.cells [i' 0] 6) (AO.cells [i' 0] 6))).a (f' (OW (AO.cells [s' s] 18) (AO.cells [s' s] 18)))))).a (((p' (sgE [45] (bts s) 0 ≤ s.size ∧ Few s.size)).a ((p' (VW [s' (ByteArray.mk (Array.mk [48])),AV.ptr 1101 0,AV.ptr 1100 0] [s' (ByteArray.mk (Array.mk [48])),AV.ptr 1101 0,AV.ptr 1100 0])).a ((p' (OW (AO.cells [i' (sgE [45] (bts s) 0)] 6) (AO.cells [i' (sgE [45] (bts s) 0)] 6))).a (f' (OW (AO.cells [s' s] 18) (AO.cells [s' s] 18)))))).a (((p' (sgE [48] (bts s) (sgE [45] (bts s) 0) ≤ s.size ∧ Few s.size)).a ((p' (VW [AV.ptr 1101 0,AV.ptr 1100 0] [AV.ptr 1101 0,AV.ptr 1100 0])).a ((p' (OW (AO.cells [i' (sgE [48] (bts s) (sgE [45] (bts s) 0))] 6) (AO.cells [i' (sgE [48] (bts s) (sgE [45] (bts s) 0))] 6))).a (f' (OW (AO.cells [s' s] 18) (AO.cells [s' s] 18)))))).a (((p' (digE (bts s) (sgE [48] (bts s) (sgE [45] (bts s) 0)) ≤ s.size ∧ Few s.size)).a ((p' (VW [s' (ByteArray.mk (Array.mk [46])),AV.ptr 1101 0,AV.ptr 1100 0] [s' (ByteArray.mk (Array.mk [46])),AV.ptr 1101 0,AV.ptr 1100 0])).a ((p' (OW (AO.cells [i' (digE (bts s) (sgE [48] (bts s) (sgE [45] (bts s) 0)))] 6) (AO.cells [i' (digE (bts s) (sgE [48] (bts s) (sgE [45] (bts s) 0)))] 6))).a (f' (OW (AO.cells [s' s] 18) (AO.cells [s' s] 18)))))).a (((p' (sgE [46] (bts s) (digE (bts s) (sgE [48] (bts s) (sgE [45] (bts s) 0))) ≤ s.size ∧ Few s.size)).a ((p' (VW [s' (ByteArray.mk (Array.mk [101,69])),AV.ptr 1101 0,AV.ptr 1100 0] [s' (ByteArray.mk (Array.mk [101,69])),AV.ptr 1101 0,AV.ptr 1100 0])).a ((p' (OW (AO.cells [i' (sgE [46] (bts s) (digE (bts s) (sgE [48] (bts s) (sgE [45] (bts s) 0))))] 6) (AO.cells [i' (sgE [46] (bts s) (digE (bts s) (sgE [48] (bts s) (sgE [45] (bts s) 0))))] 6))).a (f' (OW (AO.cells [s' s] 18) (AO.cells [s' s] 18)))))).a (((p' (true = true)).a (f' (i' (sgE [101,69] (bts s) (sgE [46] (bts s) (digE (bts s) (sgE [48] (bts s) (sgE [45] (bts s) 0))))) = i' (sgE [101,69] (bts s) (sgE [46] (bts s) (digE (bts s) (sgE [48] (bts s) (sgE [45] (bts s) 0)))))))).a ((f' (true = true)).a ((p' (true = true)).a (f' (i' (sgE [101,69] (bts s) (sgE [46] (bts s) (digE (bts s) (sgE [48] (bts s) (sgE [45] (bts s) 0))))) = i' (sgE [101,69] (bts s) (sgE [46] (bts s) (digE (bts s) (sgE [48] (bts s) (sgE [45] (bts s) 0))))))))))))))))))) (VT.ite (sgn [46] (bts s) (sgE [48] (bts s) (sgE [45] (bts s) 0))) (VT.ite (!decide (sgE [46] (bts s) (sgE [48] (bts s) (sgE [45] (bts s) 0)) < digE (bts s) (sgE [46] (bts s) (sgE [48] (bts s) (sgE [45] (bts s) 0))))) (VT.leaf (AV.tuple [i' (digE (bts s) (sgE [46] (bts s) (sgE [48] (bts s) (sgE [45] (bts s) 0)))),b' false]) [] 1102 (((p' (0 ≤ s.size ∧ Few s.size)).a ((p' (VW [s' (ByteArray.mk (Array.mk [45])),AV.ptr 1101 0,AV.ptr 1100 0] [s' (ByteArray.mk (Array.mk [45])),AV.ptr 1101 0,AV.ptr 1100 0])).a ((p' (OW (AO.cells [i' 0] 6) (AO.cells [i' 0] 6))).a (f' (OW (AO.cells [s' s] 18) (AO.cells [s' s] 18)))))).a (((p' (sgE [45] (bts s) 0 ≤ s.size ∧ Few s.size)).a ((p' (VW [s' (ByteArray.mk (Array.mk [48])),AV.ptr 1101 0,AV.ptr 1100 0] [s' (ByteArray.mk (Array.mk [48])),AV.ptr 1101 0,AV.ptr 1100 0])).a ((p' (OW (AO.cells [i' (sgE [45] (bts s) 0)] 6) (AO.cells [i' (sgE [45] (bts s) 0)] 6))).a (f' (OW (AO.cells [s' s] 18) (AO.cells [s' s] 18)))))).a (((p' (sgE [48] (bts s) (sgE [45] (bts s) 0) ≤ s.size ∧ Few s.size)).a ((p' (VW [s' (ByteArray.mk (Array.mk [46])),AV.ptr 1101 0,AV.ptr 1100 0] [s' (ByteArray.mk (Array.mk [46])),AV.ptr 1101 0,AV.ptr 1100 0])).a ((p' (OW (AO.cells [i' (sgE [48] (bts s) (sgE [45] (bts s) 0))] 6) (AO.cells [i' (sgE [48] (bts s) (sgE [45] (bts s) 0))] 6))).a (f' (OW (AO.cells [s' s] 18) (AO.cells [s' s] 18)))))).a (((p' (sgE [46] (bts s) (sgE [48] (bts s) (sgE [45] (bts s) 0)) ≤ s.size ∧ Few s.size)).a ((p' (VW [AV.ptr 1101 0,AV.ptr 1100 0] [AV.ptr 1101 0,AV.ptr 1100 0])).a ((p' (OW (AO.cells [i' (sgE [46] (bts s) (sgE [48] (bts s) (sgE [45] (bts s) 0)))] 6) (AO.cells [i' (sgE [46] (bts s) (sgE [48] (bts s) (sgE [45] (bts s) 0)))] 6))).a (f' (OW (AO.cells [s' s] 18) (AO.cells [s' s] 18)))))).a (((p' (true = true)).a (f' (i' (digE (bts s) (sgE [46] (bts s) (sgE [48] (bts s) (sgE [45] (bts s) 0)))) = i' (digE (bts s) (sgE [46] (bts s) (sgE [48] (bts s) (sgE [45] (bts s) 0))))))).a ((f' (true = true)).a ((p' (true = true)).a (f' (i' (digE (bts s) (sgE [46] (bts s) (sgE [48] (bts s) (sgE [45] (bts s) 0)))) = i' (digE (bts s) (sgE [46] (bts s) (sgE [48] (bts s) (sgE [45] (bts s) 0)))))))))))))) (VT.ite (sgn [101,69] (bts s) (digE (bts s) (sgE [46] (bts s) (sgE [48] (bts s) (sgE [45] (bts s) 0))))) (VT.ite (!decide (sgE [43,45] (bts s) (sgE [101,69] (bts s) (digE (bts s) (sgE [46] (bts s) (sgE [48] (bts s) (sgE [45] (bts s) 0))))) < digE (bts s) (sgE [43,45] (bts s) (sgE [101,69] (bts s) (digE (bts s) (sgE [46] (bts s) (sgE [48] (bts s) (sgE [45] (bts s) 0)))))))) (VT.leaf (AV.tuple [i' (digE (bts s) (sgE [43,45] (bts s) (sgE [101,69] (bts s) (digE (bts s) (sgE [46] (bts s) (sgE [48] (bts s) (sgE [45] (bts s) 0))))))),b' false]) [] 1102 (((p' (0 ≤ s.size ∧ Few s.size)).a ((p' (VW [s' (ByteArray.mk (Array.mk [45])),AV.ptr 1101 0,AV.ptr 1100 0] [s' (ByteArray.mk (Array.mk [45])),AV.ptr 1101 0,AV.ptr 1100 0])).a ((p' (OW (AO.cells [i' 0] 6) (AO.cells [i' 0] 6))).a (f' (OW (AO.cells [s' s] 18) (AO.cells [s' s] 18)))))).a (((p' (sgE [45] (bts s) 0 ≤ s.size ∧ Few s.size)).a ((p' (VW [s' (ByteArray.mk (Array.mk [48])),AV.ptr 1101 0,AV.ptr 1100 0] [s' (ByteArray.mk (Array.mk [48])),AV.ptr 1101 0,AV.ptr 1100 0])).a ((p' (OW (AO.cells [i' (sgE [45] (bts s) 0)] 6) (AO.cells [i' (sgE [45] (bts s) 0)] 6))).a (f' (OW (AO.cells [s' s] 18) (AO.cells [s' s] 18)))))).a (((p' (sgE [48] (bts s) (sgE [45] (bts s) 0) ≤ s.size ∧ Few s.size)).a ((p' (VW [s' (ByteArray.mk (Array.mk [46])),AV.ptr 1101 0,AV.ptr 1100 0] [s' (ByteArray.mk (Array.mk [46])),AV.ptr 1101 0,AV.ptr 1100 0])).a ((p' (OW (AO.cells [i' (sgE [48] (bts s) (sgE [45] (bts s) 0))] 6) (AO.cells [i' (sgE [48] (bts s) (sgE [45] (bts s) 0))] 6))).a (f' (OW (AO.cells [s' s] 18) (AO.cells [s' s] 18)))))).a (((p' (sgE [46] (bts s) (sgE [48] (bts s) (sgE [45] (bts s) 0)) ≤ s.size ∧ Few s.size)).a ((p' (VW [AV.ptr 1101 0,AV.ptr 1100 0] [AV.ptr 1101 0,AV.ptr 1100 0])).a ((p' (OW (AO.cells [i' (sgE [46] (bts s) (sgE [48] (bts s) (sgE [45] (bts s) 0)))] 6) (AO.cells [i' (sgE [46] (bts s) (sgE [48] (bts s) (sgE [45] (bts s) 0)))] 6))).a (f' (OW (AO.cells [s' s] 18) (AO.cells [s' s] 18)))))).a (((p' (digE (bts s) (sgE [46] (bts s) (sgE [48] (bts s) (sgE [45] (bts s) 0))) ≤ s.size ∧ Few s.size)).a ((p' (VW [s' (ByteArray.mk (Array.mk [101,69])),AV.ptr 1101 0,AV.ptr 1100 0] [s' (ByteArray.mk (Array.mk [101,69])),AV.ptr 1101 0,AV.ptr 1100 0])).a ((p' (OW (AO.cells [i' (digE (bts s) (sgE [46] (bts s) (sgE [48] (bts s) (sgE [45] (bts s) 0))))] 6) (AO.cells [i' (digE (bts s) (sgE [46] (bts s) (sgE [48] (bts s) (sgE [45] (bts s) 0))))] 6))).a (f' (OW (AO.cells [s' s] 18) (AO.cells [s' s] 18)))))).a (((p' (sgE [101,69] (bts s) (digE (bts s) (sgE [46] (bts s) (sgE [48] (bts s) (sgE [45] (bts s) 0)))) ≤ s.size ∧ Few s.size)).a ((p' (VW [s' (ByteArray.mk (Array.mk [43,45])),AV.ptr 1101 0,AV.ptr 1100 0] [s' (ByteArray.mk (Array.mk [43,45])),AV.ptr 1101 0,AV.ptr 1100 0])).a ((p' (OW (AO.cells [i' (sgE [101,69] (bts s) (digE (bts s) (sgE [46] (bts s) (sgE [48] (bts s) (sgE [45] (bts s) 0)))))] 6) (AO.cells [i' (sgE [101,69] (bts s) (digE (bts s) (sgE [46] (bts s) (sgE [48] (bts s) (sgE [45] (bts s) 0)))))] 6))).a (f' (OW (AO.cells [s' s] 18) (AO.cells [s' s] 18)))))).a (((p' (sgE [43,45] (bts s) (sgE [101,69] (bts s) (digE (bts s) (sgE [46] (bts s) (sgE [48] (bts s) (sgE [45] (bts s) 0))))) ≤ s.size ∧ Few s.size)).a ((p' (VW [AV.ptr 1101 0,AV.ptr 1100 0] [AV.ptr 1101 0,AV.ptr 1100 0])).a ((p' (OW (AO.cells [i' (sgE [43,45] (bts s) (sgE [101,69] (bts s) (digE (bts s) (sgE [46] (bts s) (sgE [48] (bts s) (sgE [45] (bts s) 0))))))] 6) (AO.cells [i' (sgE [43,45] (bts s) (sgE [101,69] (bts s) (digE (bts s) (sgE [46] (bts s) (sgE [48] (bts s) (sgE [45] (bts s) 0))))))] 6))).a (f' (OW (AO.cells [s' s] 18) (AO.cells [s' s] 18)))))).a (((p' (true = true)).a (f' (i' (digE (bts s) (sgE [43,45] (bts s) (sgE [101,69] (bts s) (digE (bts s) (sgE [46] (bts s) (sgE [48] (bts s) (sgE [45] (bts s) 0))))))) = i' (digE (bts s) (sgE [43,45] (bts s) (sgE [101,69] (bts s) (digE (bts s) (sgE [46] (bts s) (sgE [48] (bts s) (sgE [45] (bts s) 0)))))))))).a ((f' (true = true)).a ((p' (true = true)).a (f' (i' (digE (bts s) (sgE [43,45] (bts s) (sgE [101,69] (bts s) (digE (bts s) (sgE [46] (bts s) (sgE [48] (bts s) (sgE [45] (bts s) 0))))))) = i' (digE (bts s) (sgE [43,45] (bts s) (sgE [101,69] (bts s) (digE (bts s) (sgE [46] (bts s) (sgE [48] (bts s) (sgE [45] (bts s) 0)))))))))))))))))))) (VT.leaf (AV.tuple [i' (digE (bts s) (sgE [43,45] (bts s) (sgE [101,69] (bts s) (digE (bts s) (sgE [46] (bts s) (sgE [48] (bts s) (sgE [45] (bts s) 0))))))),b' true]) [] 1102 (((p' (0 ≤ s.size ∧ Few s.size)).a ((p' (VW [s' (ByteArray.mk (Array.mk [45])),AV.ptr 1101 0,AV.ptr 1100 0] [s' (ByteArray.mk (Array.mk [45])),AV.ptr 1101 0,AV.ptr 1100 0])).a ((p' (OW (AO.cells [i' 0] 6) (AO.cells [i' 0] 6))).a (f' (OW (AO.cells [s' s] 18) (AO.cells [s' s] 18)))))).a (((p' (sgE [45] (bts s) 0 ≤ s.size ∧ Few s.size)).a ((p' (VW [s' (ByteArray.mk (Array.mk [48])),AV.ptr 1101 0,AV.ptr 1100 0] [s' (ByteArray.mk (Array.mk [48])),AV.ptr 1101 0,AV.ptr 1100 0])).a ((p' (OW (AO.cells [i' (sgE [45] (bts s) 0)] 6) (AO.cells [i' (sgE [45] (bts s) 0)] 6))).a (f' (OW (AO.cells [s' s] 18) (AO.cells [s' s] 18)))))).a (((p' (sgE [48] (bts s) (sgE [45] (bts s) 0) ≤ s.size ∧ Few s.size)).a ((p' (VW [s' (ByteArray.mk (Array.mk [46])),AV.ptr 1101 0,AV.ptr 1100 0] [s' (ByteArray.mk (Array.mk [46])),AV.ptr 1101 0,AV.ptr 1100 0])).a ((p' (OW (AO.cells [i' (sgE [48] (bts s) (sgE [45] (bts s) 0))] 6) (AO.cells [i' (sgE [48] (bts s) (sgE [45] (bts s) 0))] 6))).a (f' (OW (AO.cells [s' s] 18) (AO.cells [s' s] 18)))))).a (((p' (sgE [46] (bts s) (sgE [48] (bts s) (sgE [45] (bts s) 0)) ≤ s.size ∧ Few s.size)).a ((p' (VW [AV.ptr 1101 0,AV.ptr 1100 0] [AV.ptr 1101 0,AV.ptr 1100 0])).a ((p' (OW (AO.cells [i' (sgE [46] (bts s) (sgE [48] (bts s) (sgE [45] (bts s) 0)))] 6) (AO.cells [i' (sgE [46] (bts s) (sgE [48] (bts s) (sgE [45] (bts s) 0)))] 6))).a (f' (OW (AO.cells [s' s] 18) (AO.cells [s' s] 18)))))).a (((p' (digE (bts s) (sgE [46] (bts s) (sgE [48] (bts s) (sgE [45] (bts s) 0))) ≤ s.size ∧ Few s.size)).a ((p' (VW [s' (ByteArray.mk (Array.mk [101,69])),AV.ptr 1101 0,AV.ptr 1100 0] [s' (ByteArray.mk (Array.mk [101,69])),AV.ptr 1101 0,AV.ptr 1100 0])).a ((p' (OW (AO.cells [i' (digE (bts s) (sgE [46] (bts s) (sgE [48] (bts s) (sgE [45] (bts s) 0))))] 6) (AO.cells [i' (digE (bts s) (sgE [46] (bts s) (sgE [48] (bts s) (sgE [45] (bts s) 0))))] 6))).a (f' (OW (AO.cells [s' s] 18) (AO.cells [s' s] 18)))))).a (((p' (sgE [101,69] (bts s) (digE (bts s) (sgE [46] (bts s) (sgE [48] (bts s) (sgE [45] (bts s) 0)))) ≤ s.size ∧ Few s.size)).a ((p' (VW [s' (ByteArray.mk (Array.mk [43,45])),AV.ptr 1101 0,AV.ptr 1100 0] [s' (ByteArray.mk (Array.mk [43,45])),AV.ptr 1101 0,AV.ptr 1100 0])).a ((p' (OW (AO.cells [i' (sgE [101,69] (bts s) (digE (bts s) (sgE [46] (bts s) (sgE [48] (bts s) (sgE [45] (bts s) 0)))))] 6) (AO.cells [i' (sgE [101,69] (bts s) (digE (bts s) (sgE [46] (bts s) (sgE [48] (bts s) (sgE [45] (bts s) 0)))))] 6))).a (f' (OW (AO.cells [s' s] 18) (AO.cells [s' s] 18)))))).a (((p' (sgE [43,45] (bts s) (sgE [101,69] (bts s) (digE (bts s) (sgE [46] (bts s) (sgE [48] (bts s) (sgE [45] (bts s) 0))))) ≤ s.size ∧ Few s.size)).a ((p' (VW [AV.ptr 1101 0,AV.ptr 1100 0] [AV.ptr 1101 0,AV.ptr 1100 0])).a ((p' (OW (AO.cells [i' (sgE [43,45] (bts s) (sgE [101,69] (bts s) (digE (bts s) (sgE [46] (bts s) (sgE [48] (bts s) (sgE [45] (bts s) 0))))))] 6) (AO.cells [i' (sgE [43,45] (bts s) (sgE [101,69] (bts s) (digE (bts s) (sgE [46] (bts s) (sgE [48] (bts s) (sgE [45] (bts s) 0))))))] 6))).a (f' (OW (AO.cells [s' s] 18) (AO.cells [s' s] 18)))))).a (((p' (true = true)).a (f' (i' (digE (bts s) (sgE [43,45] (bts s) (sgE [101,69] (bts s) (digE (bts s) (sgE [46] (bts s) (sgE [48] (bts s) (sgE [45] (bts s) 0))))))) = i' (digE (bts s) (sgE [43,45] (bts s) (sgE [101,69] (bts s) (digE (bts s) (sgE [46] (bts s) (sgE [48] (bts s) (sgE [45] (bts s) 0)))))))))).a ((f' (true = true)).a ((p' (true = true)).a (f' (i' (digE (bts s) (sgE [43,45] (bts s) (sgE [101,69] (bts s) (digE (bts s) (sgE [46] (bts s) (sgE [48] (bts s) (sgE [45] (bts s) 0))))))) = i' (digE (bts s) (sgE [43,45] (bts s) (sgE [101,69] (bts s) (digE (bts s) (sgE [46] (bts s) (sgE [48] (bts s) (sgE [45] (bts s) 0))))))))))))))))))))) (VT.leaf (AV.tuple [i' (sgE [101,69] (bts s) (digE (bts s) (sgE [46] (bts s) (sgE [48] (bts s) (sgE [45] (bts s) 0))))),b' true]) [] 1102 (((p' (0 ≤ s.size ∧ Few s.size)).a ((p' (VW [s' (ByteArray.mk (Array.mk [45])),AV.ptr 1101 0,AV.ptr 1100 0] [s' (ByteArray.mk (Array.mk [45])),AV.ptr 1101 0,AV.ptr 1100 0])).a ((p' (OW (AO.cells [i' 0] 6) (AO.cells [i' 0] 6))).a (f' (OW (AO.cells [s' s] 18) (AO.cells [s' s] 18)))))).a (((p' (sgE [45] (bts s) 0 ≤ s.size ∧ Few s.size)).a ((p' (VW [s' (ByteArray.mk (Array.mk [48])),AV.ptr 1101 0,AV.ptr 1100 0] [s' (ByteArray.mk (Array.mk [48])),AV.ptr 1101 0,AV.ptr 1100 0])).a ((p' (OW (AO.cells [i' (sgE [45] (bts s) 0)] 6) (AO.cells [i' (sgE [45] (bts s) 0)] 6))).a (f' (OW (AO.cells [s' s] 18) (AO.cells [s' s] 18)))))).a (((p' (sgE [48] (bts s) (sgE [45] (bts s) 0) ≤ s.size ∧ Few s.size)).a ((p' (VW [s' (ByteArray.mk (Array.mk [46])),AV.ptr 1101 0,AV.ptr 1100 0] [s' (ByteArray.mk (Array.mk [46])),AV.ptr 1101 0,AV.ptr 1100 0])).a ((p' (OW (AO.cells [i' (sgE [48] (bts s) (sgE [45] (bts s) 0))] 6) (AO.cells [i' (sgE [48] (bts s) (sgE [45] (bts s) 0))] 6))).a (f' (OW (AO.cells [s' s] 18) (AO.cells [s' s] 18)))))).a (((p' (sgE [46] (bts s) (sgE [48] (bts s) (sgE [45] (bts s) 0)) ≤ s.size ∧ Few s.size)).a ((p' (VW [AV.ptr 1101 0,AV.ptr 1100 0] [AV.ptr 1101 0,AV.ptr 1100 0])).a ((p' (OW (AO.cells [i' (sgE [46] (bts s) (sgE [48] (bts s) (sgE [45] (bts s) 0)))] 6) (AO.cells [i' (sgE [46] (bts s) (sgE [48] (bts s) (sgE [45] (bts s) 0)))] 6))).a (f' (OW (AO.cells [s' s] 18) (AO.cells [s' s] 18)))))).a (((p' (digE (bts s) (sgE [46] (bts s) (sgE [48] (bts s) (sgE [45] (bts s) 0))) ≤ s.size ∧ Few s.size)).a ((p' (VW [s' (ByteArray.mk (Array.mk [101,69])),AV.ptr 1101 0,AV.ptr 1100 0] [s' (ByteArray.mk (Array.mk [101,69])),AV.ptr 1101 0,AV.ptr 1100 0])).a ((p' (OW (AO.cells [i' (digE (bts s) (sgE [46] (bts s) (sgE [48] (bts s) (sgE [45] (bts s) 0))))] 6) (AO.cells [i' (digE (bts s) (sgE [46] (bts s) (sgE [48] (bts s) (sgE [45] (bts s) 0))))] 6))).a (f' (OW (AO.cells [s' s] 18) (AO.cells [s' s] 18)))))).a (((p' (true = true)).a (f' (i' (sgE [101,69] (bts s) (digE (bts s) (sgE [46] (bts s) (sgE [48] (bts s) (sgE [45] (bts s) 0))))) = i' (sgE [101,69] (bts s) (digE (bts s) (sgE [46] (bts s) (sgE [48] (bts s) (sgE [45] (bts s) 0)))))))).a ((f' (true = true)).a ((p' (true = true)).a (f' (i' (sgE [101,69] (bts s) (digE (bts s) (sgE [46] (bts s) (sgE [48] (bts s) (sgE [45] (bts s) 0))))) = i' (sgE [101,69] (bts s) (digE (bts s) (sgE [46] (bts s) (sgE [48] (bts s) (sgE [45] (bts s) 0)))))))))))))))))) (VT.ite (sgn [101,69] (bts s) (sgE [46] (bts s) (sgE [48] (bts s) (sgE [45] (bts s) 0)))) (VT.ite (!decide (sgE [43,45] (bts s) (sgE [101,69] (bts s) (sgE [46] (bts s) (sgE [48] (bts s) (sgE [45] (bts s) 0)))) < digE (bts s) (sgE [43,45] (bts s) (sgE [101,69] (bts s) (sgE [46] (bts s) (sgE [48] (bts s) (sgE [45] (bts s) 0))))))) (VT.leaf (AV.tuple [i' (digE (bts s) (sgE [43,45] (bts s) (sgE [101,69] (bts s) (sgE [46] (bts s) (sgE [48] (bts s) (sgE [45] (bts s) 0)))))),b' false]) [] 1102 (((p' (0 ≤ s.size ∧ Few s.size)).a ((p' (VW [s' (ByteArray.mk (Array.mk [45])),AV.ptr 1101 0,AV.ptr 1100 0] [s' (ByteArray.mk (Array.mk [45])),AV.ptr 1101 0,AV.ptr 1100 0])).a ((p' (OW (AO.cells [i' 0] 6) (AO.cells [i' 0] 6))).a (f' (OW (AO.cells [s' s] 18) (AO.cells [s' s] 18)))))).a (((p' (sgE [45] (bts s) 0 ≤ s.size ∧ Few s.size)).a ((p' (VW [s' (ByteArray.mk (Array.mk [48])),AV.ptr 1101 0,AV.ptr 1100 0] [s' (ByteArray.mk (Array.mk [48])),AV.ptr 1101 0,AV.ptr 1100 0])).a ((p' (OW (AO.cells [i' (sgE [45] (bts s) 0)] 6) (AO.cells [i' (sgE [45] (bts s) 0)] 6))).a (f' (OW (AO.cells [s' s] 18) (AO.cells [s' s] 18)))))).a (((p' (sgE [48] (bts s) (sgE [45] (bts s) 0) ≤ s.size ∧ Few s.size)).a ((p' (VW [s' (ByteArray.mk (Array.mk [46])),AV.ptr 1101 0,AV.ptr 1100 0] [s' (ByteArray.mk (Array.mk [46])),AV.ptr 1101 0,AV.ptr 1100 0])).a ((p' (OW (AO.cells [i' (sgE [48] (bts s) (sgE [45] (bts s) 0))] 6) (AO.cells [i' (sgE [48] (bts s) (sgE [45] (bts s) 0))] 6))).a (f' (OW (AO.cells [s' s] 18) (AO.cells [s' s] 18)))))).a (((p' (sgE [46] (bts s) (sgE [48] (bts s) (sgE [45] (bts s) 0)) ≤ s.size ∧ Few s.size)).a ((p' (VW [s' (ByteArray.mk (Array.mk [101,69])),AV.ptr 1101 0,AV.ptr 1100 0] [s' (ByteArray.mk (Array.mk [101,69])),AV.ptr 1101 0,AV.ptr 1100 0])).a ((p' (OW (AO.cells [i' (sgE [46] (bts s) (sgE [48] (bts s) (sgE [45] (bts s) 0)))] 6) (AO.cells [i' (sgE [46] (bts s) (sgE [48] (bts s) (sgE [45] (bts s) 0)))] 6))).a (f' (OW (AO.cells [s' s] 18) (AO.cells [s' s] 18)))))).a (((p' (sgE [101,69] (bts s) (sgE [46] (bts s) (sgE [48] (bts s) (sgE [45] (bts s) 0))) ≤ s.size ∧ Few s.size)).a ((p' (VW [s' (ByteArray.mk (Array.mk [43,45])),AV.ptr 1101 0,AV.ptr 1100 0] [s' (ByteArray.mk (Array.mk [43,45])),AV.ptr 1101 0,AV.ptr 1100 0])).a ((p' (OW (AO.cells [i' (sgE [101,69] (bts s) (sgE [46] (bts s) (sgE [48] (bts s) (sgE [45] (bts s) 0))))] 6) (AO.cells [i' (sgE [101,69] (bts s) (sgE [46] (bts s) (sgE [48] (bts s) (sgE [45] (bts s) 0))))] 6))).a (f' (OW (AO.cells [s' s] 18) (AO.cells [s' s] 18)))))).a (((p' (sgE [43,45] (bts s) (sgE [101,69] (bts s) (sgE [46] (bts s) (sgE [48] (bts s) (sgE [45] (bts s) 0)))) ≤ s.size ∧ Few s.size)).a ((p' (VW [AV.ptr 1101 0,AV.ptr 1100 0] [AV.ptr 1101 0,AV.ptr 1100 0])).a ((p' (OW (AO.cells [i' (sgE [43,45] (bts s) (sgE [101,69] (bts s) (sgE [46] (bts s) (sgE [48] (bts s) (sgE [45] (bts s) 0)))))] 6) (AO.cells [i' (sgE [43,45] (bts s) (sgE [101,69] (bts s) (sgE [46] (bts s) (sgE [48] (bts s) (sgE [45] (bts s) 0)))))] 6))).a (f' (OW (AO.cells [s' s] 18) (AO.cells [s' s] 18)))))).a (((p' (true = true)).a (f' (i' (digE (bts s) (sgE [43,45] (bts s) (sgE [101,69] (bts s) (sgE [46] (bts s) (sgE [48] (bts s) (sgE [45] (bts s) 0)))))) = i' (digE (bts s) (sgE [43,45] (bts s) (sgE [101,69] (bts s) (sgE [46] (bts s) (sgE [48] (bts s) (sgE [45] (bts s) 0))))))))).a ((f' (true = true)).a ((p' (true = true)).a (f' (i' (digE (bts s) (sgE [43,45] (bts s) (sgE [101,69] (bts s) (sgE [46] (bts s) (sgE [48] (bts s) (sgE [45] (bts s) 0)))))) = i' (digE (bts s) (sgE [43,45] (bts s) (sgE [101,69] (bts s) (sgE [46] (bts s) (sgE [48] (bts s) (sgE [45] (bts s) 0)))))))))))))))))) (VT.leaf (AV.tuple [i' (digE (bts s) (sgE [43,45] (bts s) (sgE [101,69] (bts s) (sgE [46] (bts s) (sgE [48] (bts s) (sgE [45] (bts s) 0)))))),b' true]) [] 1102 (((p' (0 ≤ s.size ∧ Few s.size)).a ((p' (VW [s' (ByteArray.mk (Array.mk [45])),AV.ptr 1101 0,AV.ptr 1100 0] [s' (ByteArray.mk (Array.mk [45])),AV.ptr 1101 0,AV.ptr 1100 0])).a ((p' (OW (AO.cells [i' 0] 6) (AO.cells [i' 0] 6))).a (f' (OW (AO.cells [s' s] 18) (AO.cells [s' s] 18)))))).a (((p' (sgE [45] (bts s) 0 ≤ s.size ∧ Few s.size)).a ((p' (VW [s' (ByteArray.mk (Array.mk [48])),AV.ptr 1101 0,AV.ptr 1100 0] [s' (ByteArray.mk (Array.mk [48])),AV.ptr 1101 0,AV.ptr 1100 0])).a ((p' (OW (AO.cells [i' (sgE [45] (bts s) 0)] 6) (AO.cells [i' (sgE [45] (bts s) 0)] 6))).a (f' (OW (AO.cells [s' s] 18) (AO.cells [s' s] 18)))))).a (((p' (sgE [48] (bts s) (sgE [45] (bts s) 0) ≤ s.size ∧ Few s.size)).a ((p' (VW [s' (ByteArray.mk (Array.mk [46])),AV.ptr 1101 0,AV.ptr 1100 0] [s' (ByteArray.mk (Array.mk [46])),AV.ptr 1101 0,AV.ptr 1100 0])).a ((p' (OW (AO.cells [i' (sgE [48] (bts s) (sgE [45] (bts s) 0))] 6) (AO.cells [i' (sgE [48] (bts s) (sgE [45] (bts s) 0))] 6))).a (f' (OW (AO.cells [s' s] 18) (AO.cells [s' s] 18)))))).a (((p' (sgE [46] (bts s) (sgE [48] (bts s) (sgE [45] (bts s) 0)) ≤ s.size ∧ Few s.size)).a ((p' (VW [s' (ByteArray.mk (Array.mk [101,69])),AV.ptr 1101 0,AV.ptr 1100 0] [s' (ByteArray.mk (Array.mk [101,69])),AV.ptr 1101 0,AV.ptr 1100 0])).a ((p' (OW (AO.cells [i' (sgE [46] (bts s) (sgE [48] (bts s) (sgE [45] (bts s) 0)))] 6) (AO.cells [i' (sgE [46] (bts s) (sgE [48] (bts s) (sgE [45] (bts s) 0)))] 6))).a (f' (OW (AO.cells [s' s] 18) (AO.cells [s' s] 18)))))).a (((p' (sgE [101,69] (bts s) (sgE [46] (bts s) (sgE [48] (bts s) (sgE [45] (bts s) 0))) ≤ s.size ∧ Few s.size)).a ((p' (VW [s' (ByteArray.mk (Array.mk [43,45])),AV.ptr 1101 0,AV.ptr 1100 0] [s' (ByteArray.mk (Array.mk [43,45])),AV.ptr 1101 0,AV.ptr 1100 0])).a ((p' (OW (AO.cells [i' (sgE [101,69] (bts s) (sgE [46] (bts s) (sgE [48] (bts s) (sgE [45] (bts s) 0))))] 6) (AO.cells [i' (sgE [101,69] (bts s) (sgE [46] (bts s) (sgE [48] (bts s) (sgE [45] (bts s) 0))))] 6))).a (f' (OW (AO.cells [s' s] 18) (AO.cells [s' s] 18)))))).a (((p' (sgE [43,45] (bts s) (sgE [101,69] (bts s) (sgE [46] (bts s) (sgE [48] (bts s) (sgE [45] (bts s) 0)))) ≤ s.size ∧ Few s.size)).a ((p' (VW [AV.ptr 1101 0,AV.ptr 1100 0] [AV.ptr 1101 0,AV.ptr 1100 0])).a ((p' (OW (AO.cells [i' (sgE [43,45] (bts s) (sgE [101,69] (bts s) (sgE [46] (bts s) (sgE [48] (bts s) (sgE [45] (bts s) 0)))))] 6) (AO.cells [i' (sgE [43,45] (bts s) (sgE [101,69] (bts s) (sgE [46] (bts s) (sgE [48] (bts s) (sgE [45] (bts s) 0)))))] 6))).a (f' (OW (AO.cells [s' s] 18) (AO.cells [s' s] 18)))))).a (((p' (true = true)).a (f' (i' (digE (bts s) (sgE [43,45] (bts s) (sgE [101,69] (bts s) (sgE [46] (bts s) (sgE [48] (bts s) (sgE [45] (bts s) 0)))))) = i' (digE (bts s) (sgE [43,45] (bts s) (sgE [101,69] (bts s) (sgE [46] (bts s) (sgE [48] (bts s) (sgE [45] (bts s) 0))))))))).a ((f' (true = true)).a ((p' (true = true)).a (f' (i' (digE (bts s) (sgE [43,45] (bts s) (sgE [101,69] (bts s) (sgE [46] (bts s) (sgE [48] (bts s) (sgE [45] (bts s) 0)))))) = i' (digE (bts s) (sgE [43,45] (bts s) (sgE [101,69] (bts s) (sgE [46] (bts s) (sgE [48] (bts s) (sgE [45] (bts s) 0))))))))))))))))))) (VT.leaf (AV.tuple [i' (sgE [101,69] (bts s) (sgE [46] (bts s) (sgE [48] (bts s) (sgE [45] (bts s) 0)))),b' true]) [] 1102 (((p' (0 ≤ s.size ∧ Few s.size)).a ((p' (VW [s' (ByteArray.mk (Array.mk [45])),AV.ptr 1101 0,AV.ptr 1100 0] [s' (ByteArray.mk (Array.mk [45])),AV.ptr 1101 0,AV.ptr 1100 0])).a ((p' (OW (AO.cells [i' 0] 6) (AO.cells [i' 0] 6))).a (f' (OW (AO.cells [s' s] 18) (AO.cells [s' s] 18)))))).a (((p' (sgE [45] (bts s) 0 ≤ s.size ∧ Few s.size)).a ((p' (VW [s' (ByteArray.mk (Array.mk [48])),AV.ptr 1101 0,AV.ptr 1100 0] [s' (ByteArray.mk (Array.mk [48])),AV.ptr 1101 0,AV.ptr 1100 0])).a ((p' (OW (AO.cells [i' (sgE [45] (bts s) 0)] 6) (AO.cells [i' (sgE [45] (bts s) 0)] 6))).a (f' (OW (AO.cells [s' s] 18) (AO.cells [s' s] 18)))))).a (((p' (sgE [48] (bts s) (sgE [45] (bts s) 0) ≤ s.size ∧ Few s.size)).a ((p' (VW [s' (ByteArray.mk (Array.mk [46])),AV.ptr 1101 0,AV.ptr 1100 0] [s' (ByteArray.mk (Array.mk [46])),AV.ptr 1101 0,AV.ptr 1100 0])).a ((p' (OW (AO.cells [i' (sgE [48] (bts s) (sgE [45] (bts s) 0))] 6) (AO.cells [i' (sgE [48] (bts s) (sgE [45] (bts s) 0))] 6))).a (f' (OW (AO.cells [s' s] 18) (AO.cells [s' s] 18)))))).a (((p' (sgE [46] (bts s) (sgE [48] (bts s) (sgE [45] (bts s) 0)) ≤ s.size ∧ Few s.size)).a ((p' (VW [s' (ByteArray.mk (Array.mk [101,69])),AV.ptr 1101 0,AV.ptr 1100 0] [s' (ByteArray.mk (Array.mk [101,69])),AV.ptr 1101 0,AV.ptr 1100 0])).a ((p' (OW (AO.cells [i' (sgE [46] (bts s) (sgE [48] (bts s) (sgE [45] (bts s) 0)))] 6) (AO.cells [i' (sgE [46] (bts s) (sgE [48] (bts s) (sgE [45] (bts s) 0)))] 6))).a (f' (OW (AO.cells [s' s] 18) (AO.cells [s' s] 18)))))).a (((p' (true = true)).a (f' (i' (sgE [101,69] (bts s) (sgE [46] (bts s) (sgE [48] (bts s) (sgE [45] (bts s) 0)))) = i' (sgE [101,69] (bts s) (sgE [46] (bts s) (sgE [48] (bts s) (sgE [45] (bts s) 0))))))).a ((f' (true = true)).a ((p' (true = true)).a (f' (i' (sgE [101,69] (bts s) (sgE [46] (bts s) (sgE [48] (bts s) (sgE [45] (bts s) 0)))) = i' (sgE [101,69] (bts s) (sgE [46] (bts s) (sgE [48] (bts s) (sgE [45] (bts s) 0)))))))))))))))) := by kernel_rfl
end
theorem ltFC {n : Nat} : decide (Int.ofNat n < (n : Int)) = false := decide_eq_false (by simp only [Z0]; omega)
theorem ltTC {j n : Nat} (h : j < n) : decide (Int.ofNat j < (n : Int)) = true := decide_eq_true (by simp only [Z0]; omega)
theorem YB' {b b' : Bool} (h : b = b') : Wk (.v (.bool b)) (.v (.bool b')) := by subst h; exact Ya
theorem UA' (x : UInt8) : isD x = true ↔ 48 ≤ x.toNat ∧ x.toNat ≤ 57 := by
 unfold isD; rw [Bool.and_eq_true, decide_eq_true_eq, decide_eq_true_eq]
theorem BJ' (s : ByteArray) : (bts s).length = s.size := rfl
theorem K6' {s : ByteArray} {n : Nat} (h : n < s.size) : (bts s)[n]? = some ((bts s).getD n 0) := by
 have h' : n < (bts s).length := h
 rw [List.getD_eq_getElem?_getD, List.getElem?_eq_getElem h']
 rfl
theorem AU' {i n : Nat} (h : Few n) (hi : i < n) : IntKind.i64.wrap (Int.ofNat i + Int.ofNat 1) = Int.ofNat (i + 1) := BO' i (by unfold Few at h; omega)
theorem dS' (s : ByteArray) (hs : Few s.size) (m e : Nat) (hm : m ≤ s.size) (he : digE (bts s) m = e) : LTri Tryz.prog default (A2' fDig 2) (tms 0 26 (aD m)) (oN m s) (.exit 0) (tms 0 26 (aD m)) (oN e s) := by
 refine BW' (W := default) (g := fDig) (b := A2' fDig 2) (σ := {i : Nat // i ≤ s.size ∧ digE (bts s) i = e}) 26 (fun _ => aD m) (fun i => oN i.1 s) (.exit 0) (aD m) (oN e s) (fun i => s.size - i.1) [0, 1] [0, 1, 3] (by intro h; cases h) (fun _ => rfl) rfl ?_ ⟨m, hm, he⟩
 rintro ⟨i, hi, hE⟩
 simp only
 by_cases h1 : i < s.size
 ·obtain ⟨x, hx⟩ : ∃ x, (bts s).getD i 0 = x := ⟨_, rfl⟩
  have hg := K6' h1
  rw [hx] at hg
  have hby : Wk (AV.v (.int .u8 (s.data.toList.getD i 0).toNat)) (byv x) := by rw [show s.data.toList.getD i 0 = x from hx]; exact Ya
  have hw := AU' hs h1
  have e1 := ltTC h1
  by_cases hd : isD x = true
  ·have h48 := (UA' x).1 hd
   rw [K0' hg hd] at hE
   refine ⟨[], hDg x i true true true, [], fun _ _ => noC, fun _ _ => noL, fun F => ?_⟩
   refine Yj (bS' s x m i F) ⟨⟨?_, rfl, .inl ⟨rfl, ⟨i + 1, h1, hE⟩, BD' h1, [], rfl, rfl, ⟨Ya, Ya, Ya, Ye⟩, ⟨_, rfl, Yc⟩, ⟨_, rfl, Yc⟩, Ye⟩⟩⟩
   simp only [Cnd.holds, h1, e1, Nat.blt_eq, true_and, and_true]
   and_intros
   all_goals first
    | (with_reducible exact AP' hw)
    | exact A0' e1
    | exact hby
    | exact A0' (decide_eq_true (by simp only [Z0, Z1, Z2]; omega)) | (with_reducible first | exact Ye | exact Yf | exact A4' _ | assumption) | exact Yf | ((repeat (first | exact VW.nil | refine Yg ?_ | refine Yh ?_ | refine Yi ?_)); done)
  ·have hdf : isD x = false := by simpa using hd
   rw [JZ' hg hdf] at hE
   subst hE
   by_cases hlo : 48 ≤ x.toNat
   ·have hhi : ¬ x.toNat ≤ 57 := fun h => hd ((UA' x).2 ⟨hlo, h⟩)
    refine ⟨[], hDg x i true false false, [], fun _ _ => noC, fun _ _ => noL, fun F => ?_⟩
    refine Yj (bU' s x m i F) ⟨⟨?_, rfl, .inr ⟨rfl, [], rfl, rfl, ⟨Ya, Ya, Ya, Ye⟩, ⟨_, rfl, Yc⟩, ⟨_, rfl, Yc⟩, Ye⟩⟩⟩
    simp only [Cnd.holds, h1, e1, Nat.blt_eq, true_and, and_true]
    and_intros
    all_goals first
     | exact A0' e1
     | exact hby
     | exact A0' (decide_eq_true (by simp only [Z0, Z1, Z2]; omega))
     | exact A0' (decide_eq_false (by simp only [Z0, Z1, Z2]; omega)) | (with_reducible first | exact Ye | exact Yf | exact A4' _ | assumption) | exact Yf | ((repeat (first | exact VW.nil | refine Yg ?_ | refine Yh ?_ | refine Yi ?_)); done)
   ·refine ⟨[], hDg x i false false false, [], fun _ _ => noC, fun _ _ => noL, fun F => ?_⟩
    refine Yj (bT' s x m i F) ⟨⟨?_, rfl, .inr ⟨rfl, [], rfl, rfl, ⟨Ya, Ya, Ya, Ye⟩, ⟨_, rfl, Yc⟩, ⟨_, rfl, Yc⟩, Ye⟩⟩⟩
    simp only [Cnd.holds, h1, e1, Nat.blt_eq, true_and, and_true]
    and_intros
    all_goals first
     | exact A0' e1
     | exact hby
     | exact A0' (decide_eq_false (by simp only [Z0, Z1, Z2]; omega)) | (with_reducible first | exact Ye | exact Yf | exact A4' _ | assumption) | exact Yf | ((repeat (first | exact VW.nil | refine Yg ?_ | refine Yh ?_ | refine Yi ?_)); done)
 ·have hie : i = s.size := by omega
  rw [LY' (show (bts s).length ≤ i by rw [BJ']; omega)] at hE
  subst hE
  rw [hie]
  refine ⟨[], A9' [(fDig, 2, 3, hv (.lit false))], [], fun _ _ => noC, fun _ _ => noL, fun F => ?_⟩
  refine Yj (bV' s m s.size F) ⟨⟨?_, rfl, .inr ⟨rfl, [], rfl, rfl, ⟨Ya, Ya, Ya, Ye⟩, ⟨_, rfl, Yc⟩, ⟨_, rfl, Yc⟩, Ye⟩⟩⟩
  simp only [Cnd.holds, Nat.blt_eq, true_and, and_true]
  and_intros
  all_goals first
   | exact A0' ltFC | (with_reducible first | exact Ye | exact Yf | exact A4' _ | assumption) | exact Yf | ((repeat (first | exact VW.nil | refine Yg ?_ | refine Yh ?_ | refine Yi ?_)); done)
theorem RF' (K : Nat → Bool) (n : Nat) (s : ByteArray) : ∀ x ∈ oN n s, x.2.cl K := A1' (⟨Ye, Ye⟩) (A1' (⟨Ye, Ye⟩) A7')
theorem eG' (s : ByteArray) (hs : Few s.size) (m : Nat) (hm : m ≤ s.size) : Tri Tryz.prog default fDig [.ptr 0 0, .ptr 1 0] (oN m s) (bv (decide (m < digE (bts s) m))) (oN (digE (bts s) m) s) := by
 obtain ⟨e, he⟩ : ∃ e, digE (bts s) m = e := ⟨_, rfl⟩
 rw [he]
 have hl : ∀ F, AK' default F → L1OK Tryz.prog F (A2' fDig 2) (lDg s m e) := fun F hF =>
  CL' hF (fun _ => RO.ret _) (fun _ _ => dS' s hs m e hm he) fun _ => by
   simp only [RT.pick]
   exact C0' rfl rfl (A1' rfl (A1' rfl (A1' Ye A7'))) (RF' _ _ _) (A1' rfl (A1' rfl (A1' Ye A7'))) (RF' _ _ _)
 refine AD' (con := []) (hints := A9' [(fDig, 4, 2, hv (bv (decide (m < e))))]) (lc := [(fDig, 2, A2' fDig 2, lDg s m e)]) [0, 1] rfl (fun F _ => noC) (fun F hF => BV' (hl F hF)) fun F => ?_
 refine Yj (oDg_eq s m e _ F) ⟨⟨?_, (AJ' (vs' := [bv (decide (m < e))]) (H' := oN e s) [] rfl rfl (Yb) ⟨⟨_, rfl, Yc⟩, ⟨_, rfl, Yc⟩, Ye⟩).fits rfl⟩⟩
 have hc : decide (Int.ofNat e > Int.ofNat m) = decide (m < e) := by simp only [Int.ofNat_eq_natCast, gt_iff_lt, Int.ofNat_lt]
 simp only [Cnd.holds, Nat.blt_eq, true_and, and_true]
 and_intros
 all_goals first
  | exact YB' hc | (with_reducible first | exact Ye | exact Yf | exact A4' _ | assumption) | exact Yf | ((repeat (first | exact VW.nil | refine Yg ?_ | refine Yh ?_ | refine Yi ?_)); done)
theorem HC' : ∀ (l : List UInt8) (c : UInt8), decide (0 ≤ Lib.indexByte l c) = l.contains c
 | [], c => rfl
 | a :: l, c => by
  have ih := HC' l c
  have hge := Lib.indexByte_ge l c
  unfold Lib.indexByte
  rw [List.contains_cons]
  by_cases h : a = c
  ·subst h
   simp
  ·have h2 : (c == a) = false := by simpa using fun e : c = a => h e.symm
   rw [h2, Bool.false_or, ← ih]
   rw [if_neg (by simpa using h)]
   by_cases hm : Lib.indexByte l c = -1
   ·rw [if_pos (by rw [hm]; rfl), hm]
   ·rw [if_neg (by simpa using hm)]
    have : (0 ≤ Lib.indexByte l c + 1) ↔ 0 ≤ Lib.indexByte l c := by omega
    simp only [this]
theorem dH' (k : ByteArray) (x : UInt8) : decide (idxC k ↑x.toNat ≥ Int.ofNat 0) = (bts k).contains x := by
 rw [← HC']
 unfold idxC bts
 rw [show ((x.toNat : Int).toNat).toUInt8 = x by simp]
 rfl
theorem eB' (s : ByteArray) (hs : Few s.size) (n : Nat) (hn : n ≤ s.size) (k : ByteArray) : Tri Tryz.prog default fSgn [sv k, .ptr 0 0, .ptr 1 0] (oN n s) (bv (sgn (bts k) (bts s) n)) (oN (sgE (bts k) (bts s) n) s) := by
 by_cases h1 : n < s.size
 ·obtain ⟨x, hx⟩ : ∃ x, (bts s).getD n 0 = x := ⟨_, rfl⟩
  have hg := K6' h1
  rw [hx] at hg
  have hby : Wk (AV.v (.int .u8 (s.data.toList.getD n 0).toNat)) (byv x) := by rw [show s.data.toList.getD n 0 = x from hx]; exact Ya
  have hw := AU' hs h1
  have e1 := ltTC h1
  have hi := dH' k x
  have hsg : sgn (bts k) (bts s) n = (bts k).contains x := by unfold sgn; rw [hg]
  unfold sgE
  rw [hsg]
  cases hc : (bts k).contains x with
  | true =>
   rw [hc] at hi
   refine AD' (con := [(PF', PO')]) (hints := hSg x n true) (lc := []) [0, 1] rfl (fun F hF => AO' (M5' hF)) (fun F _ => noL) fun F => ?_
   refine Yj (aL' s k x n F) ⟨⟨?_, (AJ' (vs' := [bv true]) (H' := oN (n + 1) s) [] rfl rfl (Yb) ⟨⟨_, rfl, Yc⟩, ⟨_, rfl, Yc⟩, Ye⟩).fits rfl⟩⟩
   simp only [Cnd.holds, h1, e1, Nat.blt_eq, true_and, and_true]
   and_intros
   all_goals first
    | (with_reducible exact AP' hw)
    | exact A0' e1
    | exact hby
    | exact A0' hi | (with_reducible first | exact Ye | exact Yf | exact A4' _ | assumption) | exact Yf | ((repeat (first | exact VW.nil | refine Yg ?_ | refine Yh ?_ | refine Yi ?_)); done)
  | false =>
   rw [hc] at hi
   refine AD' (con := [(PF', PO')]) (hints := hSg x n false) (lc := []) [0, 1] rfl (fun F hF => AO' (M5' hF)) (fun F _ => noL) fun F => ?_
   refine Yj (aM' s k x n F) ⟨⟨?_, (AJ' (vs' := [bv false]) (H' := oN n s) [] rfl rfl (Yb) ⟨⟨_, rfl, Yc⟩, ⟨_, rfl, Yc⟩, Ye⟩).fits rfl⟩⟩
   simp only [Cnd.holds, h1, e1, Nat.blt_eq, true_and, and_true]
   and_intros
   all_goals first
    | exact A0' e1
    | exact hby
    | exact A0' hi | (with_reducible first | exact Ye | exact Yf | exact A4' _ | assumption) | exact Yf | ((repeat (first | exact VW.nil | refine Yg ?_ | refine Yh ?_ | refine Yi ?_)); done)
 ·have hne : n = s.size := by omega
  have hg : (bts s)[n]? = none := List.getElem?_eq_none (by rw [BJ']; omega)
  have hsg : sgn (bts k) (bts s) n = false := by unfold sgn; rw [hg]
  unfold sgE
  rw [hsg]
  refine AD' (con := [(PF', PO')]) (hints := A9' [(fSgn, 1, 3, hv (.lit false))]) (lc := []) [0, 1] rfl (fun F hF => AO' (M5' hF)) (fun F _ => noL) fun F => ?_
  refine Yj (aN' s k n F) ⟨⟨?_, (AJ' (vs' := [bv false]) (H' := oN n s) [] rfl rfl (Yb) ⟨⟨_, rfl, Yc⟩, ⟨_, rfl, Yc⟩, Ye⟩).fits rfl⟩⟩
  have e1 : decide (Int.ofNat n < (s.size : Int)) = false := by rw [hne]; exact ltFC
  simp only [Cnd.holds, Nat.blt_eq, true_and, and_true]
  and_intros
  all_goals first
   | exact A0' e1 | (with_reducible first | exact Ye | exact Yf | exact A4' _ | assumption) | exact Yf | ((repeat (first | exact VW.nil | refine Yg ?_ | refine Yh ?_ | refine Yi ?_)); done)
theorem UF' (a b : Nat) (k : ByteArray) : RO (gNS2 a b k) := by
 unfold gNS2
 refine RO.read _ _ fun o => ?_
 split
 ·split
  ·refine RO.read _ _ fun o2 => ?_
   split
   ·exact RO.ret _
   ·exact RO.fail _
  ·exact RO.fail _
 ·exact RO.fail _
theorem gDg_ro (args : List AV) : RO (gDg args) := by
 unfold gDg
 split
 ·exact UF' _ _ _
 ·exact RO.fail _
theorem gSg_ro (args : List AV) : RO (gSg args) := by
 unfold gSg
 split
 ·exact UF' _ _ _
 ·exact RO.fail _
theorem cDg_ok {W : World} (F : HP) (hF : AK' W F) : C1OK Tryz.prog F fDig cDg :=
 BR' (AK'.nothing F) (fun p => bv (decide (p.m < digE (bts p.s) p.m))) gDg_ro (fun _ => rfl) (fun p hp => eG' p.s hp.2 p.m hp.1) fun p => ⟨rfl, rfl, ⟨rfl, rfl, Ye⟩, RF' _ _ _, ⟨Ye, Ye⟩, RF' _ _ _⟩
theorem cSg_ok {W : World} (F : HP) (hF : AK' W F) : C1OK Tryz.prog F fSgn cSg :=
 BR' (AK'.nothing F) (fun p => bv (sgn (bts p.k) (bts p.s) p.m)) gSg_ro (fun _ => rfl) (fun p hp => eB' p.s hp.2 p.m hp.1 p.k) fun p => ⟨rfl, rfl, ⟨Ye, rfl, rfl, Ye⟩, RF' _ _ _, ⟨Ye, Ye⟩, RF' _ _ _⟩
def numV (q : Nat × Bool) : AV := .tuple [iv (Int.ofNat q.1), bv q.2]
theorem dB' {l : List UInt8} {x : Nat} {b : Bool} (h : numR l = (x, b)) : VW [AV.tuple [AV.v (.int .i64 (Int.ofNat x)), AV.v (.bool b)]] [numV (num l)] := by
 rw [← dA', h]; exact Yb
theorem s_sg {ks : List UInt8} {s : ByteArray} {n : Nat} (h : n ≤ s.size) : sgE ks (bts s) n ≤ s.size := SV' h
theorem s_dg {s : ByteArray} {n : Nat} (h : n ≤ s.size) : digE (bts s) n ≤ s.size := PI' h
theorem eD' {W : World} (s : ByteArray) (hs : Few s.size) : Tri Tryz.prog W fNum [sv s] [] (numV (num (bts s))) [] := by
 refine AD' (con := [(fDig, cDg), (fSgn, cSg)]) (hints := DL') (lc := []) [] rfl (fun F hF => AC' (cDg_ok F hF) (AO' (cSg_ok F hF))) (fun F _ => noL) fun F => ?_
 refine cast (congrArg (VAll _) (oNm_eq W s F).symm) ?_
 repeat' refine VAll.ite (fun hb => ?_) (fun hb => ?_)
 all_goals
  refine ⟨⟨?_, (AJ' (vs' := [numV (num (bts s))]) (H' := []) [] rfl rfl (dB' (by simp only [numR, TO', TN', *, if_true, Bool.false_eq_true, if_false])) trivial).fits rfl⟩⟩
  simp only [Cnd.holds, Nat.blt_eq, true_and, and_true]
  and_intros
  all_goals first
   | (with_reducible exact Ye)
   | (with_reducible exact rfl)
   | (with_reducible exact Ya)
   | (with_reducible exact Yb)
   | (with_reducible exact Yc)
   | (with_reducible exact hs)
   | exact Nat.zero_le _
   | ((repeat (first | exact Nat.zero_le _ | refine s_sg ?_ | refine s_dg ?_)); done)
noncomputable section
abbrev AV' : Nat := 74
abbrev fRDg : Nat := 50
def gS1 : List AV → AP ByteArray := fun args => match args with
 | [.v (.string s)] => .ret s
 | _ => .fail "a text"
def cNum : List AV → Option (AP AV) := mkC gS1 (fun s => Few s.size) (fun _ k => k) (fun s => [sv s]) (fun _ => []) (fun s => .leaf .ret [numV (num (bts s))] [])
def hRd (x : UInt8) (a b c : Bool) : B8' := A9' [(fRDg, 1, 3, hv (.lit a)), (fRDg, 1, 7, h0v (byv x)), (fRDg, 1, 8, hv (.lit b)), (fRDg, 1, 13, h0v (byv x)), (fRDg, 1, 14, hv (.lit c)), (fRDg, 1, 15, hv (bv c))]
theorem aO' (s : ByteArray) (x : UInt8) (n : Nat) (F : HP) : wRun [] (hRd x true true true) [] default fRDg [sv s, iv (Int.ofNat n)] [] [] F = VT.leaf (b' true) [] 1100 ((k3' n s).a ((k4' n s x).a ((k5' x).a ((k4' n s x).a ((k6' x).a ((f' (Wk j' (b' true))).a t')))))) := by kernel_rfl
noncomputable section
abbrev k13' : Cnd := (f' (Wk g' (b' false)))
end
theorem aQ' (s : ByteArray) (x : UInt8) (n : Nat) (F : HP) : wRun [] (hRd x true true false) [] default fRDg [sv s, iv (Int.ofNat n)] [] [] F = VT.leaf (b' false) [] 1100 ((k3' n s).a ((k4' n s x).a ((k5' x).a ((k4' n s x).a ((k10' x).a (k13'.a t')))))) := by kernel_rfl
theorem aP' (s : ByteArray) (x : UInt8) (n : Nat) (F : HP) : wRun [] (hRd x true false false) [] default fRDg [sv s, iv (Int.ofNat n)] [] [] F = VT.leaf (b' false) [] 1100 ((k3' n s).a ((k4' n s x).a ((k9' x).a (k13'.a t')))) := by kernel_rfl
theorem aR' (s : ByteArray) (n : Nat) (F : HP) : wRun [] (hRd 0 false false false) [] default fRDg [sv s, iv (Int.ofNat n)] [] [] F = VT.leaf (b' false) [] 1100 ((k11' n s).a (k13'.a t')) := by kernel_rfl
def BI' (l : List UInt8) (n : Nat) : Bool := match l[n]? with
 | some c => isD c
 | none => false
def gSN : List AV → AP (ByteArray × Nat) := fun args => match args with
 | [.v (.string s), .v (.int .i64 z)] => match z with
  | .ofNat n => .ret (s, n)
  | _ => .fail "a place"
 | _ => .fail "a text and a place"
def cRDg : List AV → Option (AP AV) := mkC gSN (fun p => p.2 ≤ p.1.size) (fun _ k => k) (fun p => [sv p.1, iv (Int.ofNat p.2)]) (fun _ => []) (fun p => .leaf .ret [bv (BI' (bts p.1) p.2)] [])
def BB' : List AV → Option (AP AV) := mkC gSN (fun p => p.2 ≤ p.1.size ∧ Few p.1.size) (fun _ k => k) (fun p => [sv p.1, iv (Int.ofNat p.2)]) (fun _ => []) (fun p => .leaf .ret [iv (Int.ofNat (digE (bts p.1) p.2))] [])
def aDs (s : ByteArray) (n : Nat) : List (Nat × AV) := [(0, sv s), (1, iv (Int.ofNat n))]
def hDs (b : Bool) (n : Nat) : B8' := A9' [(AV', 1, 2, hv (.lit b)), (AV', 2, 1, hv (iv (Int.ofNat (n + 1))))]
noncomputable section
abbrev k14' (q0 : Nat) (q1 : ByteArray) : Cnd := ((p' (q0 ≤ q1.size)).a ((p' (VW [s' q1,i' q0] [s' q1,i' q0])).a (f' (Wk (b' (BI' (bts q1) q0)) j'))))
end
theorem bQ' (s : ByteArray) (n : Nat) (F : HP) : AR' [(fRDg, cRDg)] (hDs true n) [] default AV' (A2' AV' 1) (tms 0 11 (aDs s n)) [] [] [0, 1] F = VT.leaf (AX.normal,[s' s,i' (n + 1)],11) [] 1100 ((k14' n s).a ((k7' n).a t')) := by kernel_rfl
noncomputable section
abbrev k15' (q0 : Nat) (q1 : ByteArray) : Cnd := ((p' (q0 ≤ q1.size)).a ((p' (VW [s' q1,i' q0] [s' q1,i' q0])).a (f' (Wk (b' (BI' (bts q1) q0)) g'))))
end
theorem bR' (s : ByteArray) (n : Nat) (F : HP) : AR' [(fRDg, cRDg)] (hDs false n) [] default AV' (A2' AV' 1) (tms 0 11 (aDs s n)) [] [] [0, 1] F = VT.leaf (AX.exit 0,[s' s,i' n],11) [] 1100 ((k15' n s).a t') := by kernel_rfl
def lDs (s : ByteArray) (m e : Nat) : List AV → AP (AX × List AV) := mkL (fun _ => .ret ()) (fun _ => True) (fun _ k => k) (fun _ => tms 0 11 (aDs s m)) (fun _ => []) (fun _ => .leaf (.exit 0) (tms 0 11 (aDs s e)) [])
theorem oDs_eq (s : ByteArray) (m e : Nat) (F : HP) : wRun [] DL' [(AV', 1, A2' AV' 1, lDs s m e)] default AV' [sv s, iv (Int.ofNat m)] [] [] F = VT.leaf (i' e) [] 1100 ((p' ((AV',1,A2' AV' 1,lDs s m e).snd.snd.fst = (AV',1,A2' AV' 1,lDs s m e).snd.snd.fst)).a (k12'.a (f' (VW [s' s,i' m,u',u',i' 0,u',u',u',u',u',u'] (s' s::i' m::ra8 (a'::[])))))) := by kernel_rfl
end
theorem DO' {W : World} (F : HP) (hF : AK' W F) : C1OK Tryz.prog F fNum cNum :=
 BR' hF (fun s => numV (num (bts s))) (fun args => by
  unfold gS1
  split
  ·exact RO.ret _
  ·exact RO.fail _) (fun _ => rfl) (fun s hs => eD' s hs) fun s => ⟨rfl, rfl, ⟨Ye, Ye⟩, A7', ⟨⟨Ye, Ye, Ye⟩, Ye⟩, A7'⟩
theorem HJ' {s : ByteArray} {n : Nat} {x : UInt8} (hx : (bts s).getD n 0 = x) : Wk (AV.v (.int .u8 (s.data.toList.getD n 0).toNat)) (byv x) := by rw [show s.data.toList.getD n 0 = x from hx]; exact Ya
theorem eC' {W : World} (s : ByteArray) (n : Nat) : Tri Tryz.prog default fRDg [sv s, iv (Int.ofNat n)] [] (bv (BI' (bts s) n)) [] := by
 by_cases h1 : n < s.size
 ·obtain ⟨x, hx⟩ : ∃ x, (bts s).getD n 0 = x := ⟨_, rfl⟩
  have hg := K6' h1
  rw [hx] at hg
  have hby := HJ' hx
  have e1 := ltTC h1
  have hv : BI' (bts s) n = isD x := by unfold BI'; rw [hg]
  rw [hv]
  unfold isD
  by_cases hlo : 48 ≤ x.toNat
  ·by_cases hhi : x.toNat ≤ 57
   ·rw [decide_eq_true hlo, decide_eq_true hhi]
    refine AD' (con := []) (hints := hRd x true true true) (lc := []) [] rfl (fun F _ => noC) (fun F _ => noL) fun F => ?_
    refine Yj (aO' s x n F) ⟨⟨?_, (AJ' (vs' := [bv true]) (H' := []) [] rfl rfl (Yb) trivial).fits rfl⟩⟩
    simp only [Cnd.holds, Nat.blt_eq, true_and, and_true]
    and_intros
    all_goals first
     | exact h1
     | exact A0' e1
     | exact hby
     | exact SC' rfl
     | exact A0' (decide_eq_true (by simp only [Z0, Z1, Z2]; omega)) | (with_reducible first | exact Ye | exact Yf | exact A4' _ | assumption) | exact Yf | ((repeat (first | exact VW.nil | refine Yg ?_ | refine Yh ?_ | refine Yi ?_)); done)
   ·rw [decide_eq_true hlo, decide_eq_false hhi]
    refine AD' (con := []) (hints := hRd x true true false) (lc := []) [] rfl (fun F _ => noC) (fun F _ => noL) fun F => ?_
    refine Yj (aQ' s x n F) ⟨⟨?_, (AJ' (vs' := [bv false]) (H' := []) [] rfl rfl (Yb) trivial).fits rfl⟩⟩
    simp only [Cnd.holds, Nat.blt_eq, true_and, and_true]
    and_intros
    all_goals first
     | exact h1
     | exact A0' e1
     | exact hby
     | exact SC' rfl
     | exact A0' (decide_eq_true (by simp only [Z0, Z1, Z2]; omega))
     | exact A0' (decide_eq_false (by simp only [Z0, Z1, Z2]; omega)) | (with_reducible first | exact Ye | exact Yf | exact A4' _ | assumption) | exact Yf | ((repeat (first | exact VW.nil | refine Yg ?_ | refine Yh ?_ | refine Yi ?_)); done)
  ·rw [decide_eq_false hlo]
   refine AD' (con := []) (hints := hRd x true false false) (lc := []) [] rfl (fun F _ => noC) (fun F _ => noL) fun F => ?_
   refine Yj (aP' s x n F) ⟨⟨?_, (AJ' (vs' := [bv false]) (H' := []) [] rfl rfl (Yb) trivial).fits rfl⟩⟩
   simp only [Cnd.holds, Nat.blt_eq, true_and, and_true]
   and_intros
   all_goals first
    | exact h1
    | exact A0' e1
    | exact hby
    | exact SC' rfl
    | exact A0' (decide_eq_false (by simp only [Z0, Z1, Z2]; omega)) | (with_reducible first | exact Ye | exact Yf | exact A4' _ | assumption) | exact Yf | ((repeat (first | exact VW.nil | refine Yg ?_ | refine Yh ?_ | refine Yi ?_)); done)
 ·have hg : (bts s)[n]? = none := List.getElem?_eq_none (by rw [BJ']; omega)
  have hv : BI' (bts s) n = false := by unfold BI'; rw [hg]
  rw [hv]
  have e1 : decide (Int.ofNat n < (s.size : Int)) = false := decide_eq_false (by simp only [Z0]; omega)
  refine AD' (con := []) (hints := hRd 0 false false false) (lc := []) [] rfl (fun F _ => noC) (fun F _ => noL) fun F => ?_
  refine Yj (aR' s n F) ⟨⟨?_, (AJ' (vs' := [bv false]) (H' := []) [] rfl rfl (Yb) trivial).fits rfl⟩⟩
  simp only [Cnd.holds, Nat.blt_eq, true_and, and_true]
  and_intros
  all_goals first
   | exact A0' e1
   | exact SC' rfl | (with_reducible first | exact Ye | exact Yf | exact A4' _ | assumption) | exact Yf | ((repeat (first | exact VW.nil | refine Yg ?_ | refine Yh ?_ | refine Yi ?_)); done)
theorem QQ' (args : List AV) : RO (gSN args) := by
 unfold gSN
 split
 ·split
  ·exact RO.ret _
  ·exact RO.fail _
 ·exact RO.fail _
theorem B7' {W : World} (F : HP) (hF : AK' W F) : C1OK Tryz.prog F fRDg cRDg :=
 BR' (AK'.nothing F) (fun p => bv (BI' (bts p.1) p.2)) QQ' (fun _ => rfl) (fun p hp => eC' (W := W) p.1 p.2) fun p => ⟨rfl, rfl, ⟨Ye, Ye, Ye⟩, A7', ⟨Ye, Ye⟩, A7'⟩
theorem dR' (s : ByteArray) (hs : Few s.size) (m e : Nat) (hm : m ≤ s.size) (he : digE (bts s) m = e) : LTri Tryz.prog default (A2' AV' 1) (tms 0 11 (aDs s m)) [] (.exit 0) (tms 0 11 (aDs s e)) [] := by
 refine BW' (W := default) (g := AV') (b := A2' AV' 1) (σ := {i : Nat // i ≤ s.size ∧ digE (bts s) i = e}) 11 (fun i => aDs s i.1) (fun i => []) (.exit 0) (aDs s e) [] (fun i => s.size - i.1) [] [0, 1] (by intro h; cases h) (fun _ => rfl) rfl ?_ ⟨m, hm, he⟩
 rintro ⟨i, hi, hE⟩
 simp only
 cases hd : BI' (bts s) i with
 | true =>
  obtain ⟨c, hc, hcd⟩ : ∃ c, (bts s)[i]? = some c ∧ isD c = true := by
   unfold BI' at hd
   split at hd
   ·rename_i c hc; exact ⟨c, hc, hd⟩
   ·cases hd
  have h1 : i < s.size := (List.getElem?_eq_some_iff.1 hc).1
  rw [K0' hc hcd] at hE
  have hw := AU' hs h1
  refine ⟨[(fRDg, cRDg)], hDs true i, [], fun F hF => AO' (B7' F hF), fun _ _ => noL, fun F => ?_⟩
  refine Yj (bQ' s i F) ⟨⟨?_, rfl, .inl ⟨rfl, ⟨i + 1, h1, hE⟩, BD' h1, [], rfl, rfl, ⟨Ya, Ya, Ye⟩, Ye⟩⟩⟩
  simp only [Cnd.holds, Nat.blt_eq, true_and, and_true]
  and_intros
  all_goals first
   | (with_reducible exact AP' hw)
   | exact hi
   | exact A0' hd | (with_reducible first | exact Ye | exact Yf | exact A4' _ | assumption) | exact Yf | ((repeat (first | exact VW.nil | refine Yg ?_ | refine Yh ?_ | refine Yi ?_)); done)
 | false =>
  have hE2 : i = e := by
   by_cases h1 : i < s.size
   ·have hg := K6' h1
    have hdf : isD ((bts s).getD i 0) = false := by
     unfold BI' at hd
     rw [hg] at hd
     exact hd
    rw [JZ' hg hdf] at hE
    exact hE
   ·rw [LY' (show (bts s).length ≤ i by rw [BJ']; omega)] at hE
    exact hE
  subst hE2
  refine ⟨[(fRDg, cRDg)], hDs false i, [], fun F hF => AO' (B7' F hF), fun _ _ => noL, fun F => ?_⟩
  refine Yj (bR' s i F) ⟨⟨?_, rfl, .inr ⟨rfl, [], rfl, rfl, ⟨Ya, Ya, Ye⟩, Ye⟩⟩⟩
  simp only [Cnd.holds, Nat.blt_eq, true_and, and_true]
  and_intros
  all_goals first
   | exact hi
   | exact A0' hd | (with_reducible first | exact Ye | exact Yf | exact A4' _ | assumption) | exact Yf | ((repeat (first | exact VW.nil | refine Yg ?_ | refine Yh ?_ | refine Yi ?_)); done)
theorem Y7' (s : ByteArray) (hs : Few s.size) (m : Nat) (hm : m ≤ s.size) : Tri Tryz.prog default AV' [sv s, iv (Int.ofNat m)] [] (iv (Int.ofNat (digE (bts s) m))) [] := by
 obtain ⟨e, he⟩ : ∃ e, digE (bts s) m = e := ⟨_, rfl⟩
 rw [he]
 have hl : ∀ F, AK' default F → L1OK Tryz.prog F (A2' AV' 1) (lDs s m e) := fun F hF =>
  CL' hF (fun _ => RO.ret _) (fun _ _ => dR' s hs m e hm he) fun _ => by
   simp only [RT.pick]
   exact C0' rfl rfl (A1' Ye (A1' Ye A7')) A7' (A1' Ye (A1' Ye A7')) A7'
 refine AD' (con := []) (hints := DL') (lc := [(AV', 1, A2' AV' 1, lDs s m e)]) [] rfl (fun F _ => noC) (fun F hF => BV' (hl F hF)) fun F => ?_
 refine Yj (oDs_eq s m e F) ⟨⟨?_, (AJ' (vs' := [iv (Int.ofNat e)]) (H' := []) [] rfl rfl (Yb) trivial).fits rfl⟩⟩
 simp only [Cnd.holds, Nat.blt_eq, true_and, and_true]
 and_intros
 all_goals first | (with_reducible first | exact Ye | exact Yf | exact A4' _ | assumption) | exact Yf | ((repeat (first | exact VW.nil | refine Yg ?_ | refine Yh ?_ | refine Yi ?_)); done)
theorem B0' {W : World} (F : HP) (hF : AK' W F) : C1OK Tryz.prog F AV' BB' :=
 BR' (AK'.nothing F) (fun p => iv (Int.ofNat (digE (bts p.1) p.2))) QQ' (fun _ => rfl) (fun p hp => Y7' p.1 hp.2 p.2 hp.1) fun p => ⟨rfl, rfl, ⟨Ye, Ye, Ye⟩, A7', ⟨Ye, Ye⟩, A7'⟩
noncomputable section
abbrev fWS : Nat := 35
abbrev fWB : Nat := 38
def bN : AO := .cells [.v (.pointer none), .v (.slice none 0 0)] tBld
def bU (P : List UInt8) : AO := .cells [.ptr 0 0, sB 1002 P.length] tBld
def bldL : Option (List UInt8) → LH
 | none => [(0, bN)]
 | some P => [(0, bU P), (1002, rB P)]
def bldR (s : ByteArray) : Option (List UInt8) → Prop
 | none => bts s = []
 | some P => bts s = P ∧ P ≠ []
def bldO (s : ByteArray) : AO := .own (.text s) (exHP (bldR s) bldL)
theorem aB' (W : World) (c : UInt8) (F : HP) : wRun [(fCC, cCC)] (A9' [(fWB, 2, 7, ho 1101 (rB [c]))]) [] W fWB [.ptr 0 0, byv c] [(0, bN)] [0, 1101] F = VT.leaf (AV.v Value.nilIface) [some (AO.cells [AV.ptr 0 0,AV.slice 1101 0 1 1 (Cp.lo 1)] 104),some (AO.cells [AV.v (Value.int IntKind.u8 ↑c.toNat)] 10)] 1102 (k8'.a (((p' (true = true)).a ((p' (true = true)).a ((p' (true = true)).a ((p' (true = true)).a ((p' (true = true)).a ((p' (true = true)).a (f' (OW (AO.cells [AV.v (Value.int IntKind.u8 ↑c.toNat)] 10) (AO.cells [AV.v (Value.int IntKind.u8 ↑c.toNat)] 10))))))))).a (k8'.a t'))) := by kernel_rfl
theorem aA' (W : World) (P : List UInt8) (c : UInt8) (F : HP) : wRun [(fCC, cCC)] (A9' [(fWB, 2, 7, ho 1101 (rB (P ++ [c])))]) [] W fWB [.ptr 0 0, byv c] [(0, bU P), (1002, rB P)] [0, 1101] F = VT.leaf (AV.v Value.nilIface) [some (AO.cells [AV.ptr 0 0,AV.slice 1101 0 (P.length + 1) 1 (Cp.lo (P.length + 1))] 104),some (AO.cells (rowV encB (P ++ [c])) 10)] 1102 (k8'.a (((p' (true = true)).a ((p' (true = true)).a ((p' (true = true)).a ((p' (true = true)).a ((p' ((0 + P.length * 1).ble (rowV encB P).length = true)).a ((p' (((P.length + 1) * 1).ble 140737488355328 = true)).a ((p' ((P.length + 1).ble 9223372036854775807 = true)).a ((p' ((List.take (P.length * 1) (List.drop 0 (rowV encB P))).length.beq (P.length * 1) = true)).a (f' (OW (AO.cells (List.take (P.length * 1) (List.drop 0 (rowV encB P)) ++ [AV.v (Value.int IntKind.u8 ↑c.toNat)]) 10) (AO.cells (rowV encB (P ++ [c])) 10))))))))))).a (k8'.a t'))) := by kernel_rfl
theorem a9' (W : World) (t : ByteArray) (F : HP) : wRun [(fCC, cCC)] (A9' [(fWS, 2, 6, ho 1100 (rB (bts t)))]) [] W fWS [.ptr 0 0, sv t] [(0, bN)] [0, 1100] F = VT.leaf (AV.tuple [z' ↑t.size,AV.v Value.nilIface]) [some (AO.cells [AV.ptr 0 0,AV.slice 1100 0 t.size 1 (Cp.lo t.size)] 104),some (AO.cells (rowV encB (bts t)) 10)] 1101 (k8'.a (((p' (t.size.ble t.size = true)).a ((p' ((vmap (List.map (fun b => Value.int IntKind.u8 ↑b.toNat) (List.take t.size t.data.toList))).all AV.one = true)).a ((p' (Nat.blt 0 t.size = true)).a ((p' ((t.size * 1).ble 140737488355328 = true)).a ((p' (t.size.ble 9223372036854775807 = true)).a (f' (OW (AO.cells (vmap (List.map (fun b => Value.int IntKind.u8 ↑b.toNat) (List.take t.size t.data.toList))) 10) (AO.cells (rowV encB (bts t)) 10)))))))).a (k8'.a t'))) := by kernel_rfl
theorem a8' (W : World) (P : List UInt8) (t : ByteArray) (F : HP) : wRun [(fCC, cCC)] (A9' [(fWS, 2, 6, ho 1100 (rB (P ++ bts t)))]) [] W fWS [.ptr 0 0, sv t] [(0, bU P), (1002, rB P)] [0, 1100] F = VT.leaf (AV.tuple [z' ↑t.size,AV.v Value.nilIface]) [some (AO.cells [AV.ptr 0 0,AV.slice 1100 0 (P.length + t.size) 1 (Cp.lo (P.length + t.size))] 104),some (AO.cells (rowV encB (P ++ bts t)) 10)] 1101 (k8'.a (((p' (t.size.ble t.size = true)).a ((p' ((vmap (List.map (fun b => Value.int IntKind.u8 ↑b.toNat) (List.take t.size t.data.toList))).all AV.one = true)).a ((p' (Nat.blt 0 t.size = true)).a ((p' ((0 + P.length * 1).ble (rowV encB P).length = true)).a ((p' (((P.length + t.size) * 1).ble 140737488355328 = true)).a ((p' ((P.length + t.size).ble 9223372036854775807 = true)).a ((p' ((List.take (P.length * 1) (List.drop 0 (rowV encB P))).length.beq (P.length * 1) = true)).a (f' (OW (AO.cells (List.take (P.length * 1) (List.drop 0 (rowV encB P)) ++ vmap (List.map (fun b => Value.int IntKind.u8 ↑b.toNat) (List.take t.size t.data.toList))) 10) (AO.cells (rowV encB (P ++ bts t)) 10)))))))))).a (k8'.a t'))) := by kernel_rfl
end
def cat (s t : ByteArray) : ByteArray := tB (bts s ++ bts t)
def oneB (c : UInt8) : ByteArray := tB [c]
theorem CQ' (s t : ByteArray) : bts (cat s t) = bts s ++ bts t := B4' _
theorem E3' (c : UInt8) : bts (oneB c) = [c] := B4' _
theorem BT' (s t : ByteArray) : (cat s t).size = s.size + t.size := by
 rw [← BJ', CQ', List.length_append]; rfl
theorem PN' (s t u : ByteArray) : cat (cat s t) u = cat s (cat t u) := by
 unfold cat
 rw [show bts (tB (bts s ++ bts t)) = _ from B4' _, show bts (tB (bts t ++ bts u)) = _ from B4' _, List.append_assoc]
theorem Z4' (s : ByteArray) (l m : List UInt8) : cat (cat s (tB l)) (tB m) = cat s (tB (l ++ m)) := by
 rw [PN']
 congr 1
theorem UW' (s : ByteArray) : cat s (tB []) = s := by
 unfold cat
 rw [show bts (tB []) = [] from B4' _, List.append_nil]
 exact CV' (B4' _)
theorem e4' (z : Option (List UInt8)) : ∀ x ∈ bldL z, x.2.cl (kH (bldL z)) := by
 cases z with
 | none => exact A1' ⟨Ye, Ye, Ye⟩ A7'
 | some P => exact A1' ⟨rfl, rfl, Ye⟩ (A1' (ZT' _ _) A7')
theorem V2' (z : Option (List UInt8)) : ∃ o, getO (bldL z) 0 = some o := by cases z <;> exact ⟨_, rfl⟩
theorem M6' (z : Option (List UInt8)) : Eng.ownL [] (bldL z) = true := by cases z <;> rfl
theorem LP' {W : World} {f : FuncId} {A : List AV} {s : ByteArray} {v : AV} {H' : LH} (h0 : bts s = [] → Tri Tryz.prog W f A [(0, bN)] v H') (h1 : bts s ≠ [] → Tri Tryz.prog W f A [(0, bU (bts s)), (1002, rB (bts s))] v H') : Tri Tryz.prog W f A [(0, bldO s)] v H' :=
 Tri.open (R := bldR s) (L := bldL) (H0 := []) M6' e4' V2' fun z hz => by
  cases z with
  | none => exact h0 hz
  | some P =>
   obtain ⟨rfl, h⟩ := hz
   exact h1 h
theorem QC' {s : ByteArray} {P : List UInt8} {vs : List AV} (h : bts s = P) (hP : P ≠ []) (hv : AV.cls (fun i => Nat.blt i 1000 || false) vs) : Goes vs [(0, bU P), (1002, rB P)] vs [(0, bldO s)] :=
 Goes.shut (R := bldR s) (L := bldL) (m := .text s) (H0 := []) (some P) ⟨h, hP⟩ (M6' _) ⟨_, _, rfl, rfl⟩ hv A7'
theorem PE' {n : Nat} (h : n ≤ 1099511627776) : (n * 1).ble 140737488355328 = true ∧ n.ble 9223372036854775807 = true := ⟨by rw [Nat.ble_eq]; omega, by rw [Nat.ble_eq]; omega⟩
theorem WB_tri {W : World} (s : ByteArray) (c : UInt8) (hs : s.size ≤ 1000000000) : Tri Tryz.prog W fWB [.ptr 0 0, byv c] [(0, bldO s)] (.v .nilIface) [(0, bldO (cat s (oneB c)))] := by
 refine (LP' (fun h => ?_) fun h => ?_ : Tri Tryz.prog W fWB [.ptr 0 0, byv c] [(0, bldO s)] (.v .nilIface) [(0, bU (bts s ++ [c])), (1002, rB (bts s ++ [c]))]).post (QC' (by rw [CQ', E3']) (by simp) ⟨Ye, Ye⟩)
 ·rw [h]
  refine AD' (con := [(fCC, cCC)]) (hints := A9' [(fWB, 2, 7, ho 1101 (rB [c]))]) (lc := []) [0, 1101] rfl (fun F hF => AO' QZ') (fun F _ => noL) fun F => ?_
  refine Yj (aB' W c F) ⟨⟨?_, (AJ' (vs' := [.v .nilIface]) (H' := [(0, bU [c]), (1002, rB [c])]) [(1002, 1101)] rfl rfl (Yb) ⟨⟨_, rfl, Yc⟩, ⟨_, rfl, Yc⟩, Ye⟩).fits rfl⟩⟩
  simp only [Cnd.holds, Nat.blt_eq, true_and, and_true]
  and_intros
  all_goals first | (with_reducible first | exact Ye | exact Yf | exact A4' _ | assumption) | exact Yf | ((repeat (first | exact VW.nil | refine Yg ?_ | refine Yh ?_ | refine Yi ?_)); done)
 ·have hb := PE' (n := (bts s).length + 1) (by rw [BJ']; omega)
  have hin : (0 + (bts s).length * 1).ble (rowV encB (bts s)).length = true := IO' rfl
  have hfu : (List.take ((bts s).length * 1) (List.drop 0 (rowV encB (bts s)))).length.beq ((bts s).length * 1) = true := CX' rfl
  have had : List.take ((bts s).length * 1) (List.drop 0 (rowV encB (bts s))) ++ [AV.v (Value.int IntKind.u8 (c.toNat : Int))] = rowV encB (bts s ++ [c]) := LO' rfl [c]
  refine AD' (con := [(fCC, cCC)]) (hints := A9' [(fWB, 2, 7, ho 1101 (rB (bts s ++ [c])))]) (lc := []) [0, 1101] rfl (fun F hF => AO' QZ') (fun F _ => noL) fun F => ?_
  refine Yj (aA' W (bts s) c F) ⟨⟨?_, (AJ' (vs' := [.v .nilIface]) (H' := [(0, bU (bts s ++ [c])), (1002, rB (bts s ++ [c]))]) [(1002, 1101)] rfl rfl (Yb) ⟨⟨_, rfl, by unfold bU; rw [List.length_append]; exact Yc⟩, ⟨_, rfl, H6' rfl rfl⟩, Ye⟩).fits rfl⟩⟩
  simp only [Cnd.holds, Nat.blt_eq, true_and, and_true]
  and_intros
  all_goals first
   | exact hin
   | exact hb.1
   | exact hb.2
   | exact hfu
   | (rw [had]; exact Yc) | (with_reducible first | exact Ye | exact Yf | exact A4' _ | assumption) | exact Yf | ((repeat (first | exact VW.nil | refine Yg ?_ | refine Yh ?_ | refine Yi ?_)); done)
theorem Q6' (l : List UInt8) : (vmap (l.map fun b => Value.int IntKind.u8 (b.toNat : Int))).all AV.one = true := by
 induction l with
 | nil => rfl
 | cons a l ih => exact ih
theorem WS_tri {W : World} (s t : ByteArray) (hs : s.size ≤ 1000000000) (ht : t.size ≤ 1000000000) (h0 : 0 < t.size) : Tri Tryz.prog W fWS [.ptr 0 0, sv t] [(0, bldO s)] (.tuple [iv (Int.ofNat t.size), .v .nilIface]) [(0, bldO (cat s t))] := by
 have htk : List.take t.size t.data.toList = bts t := List.take_of_length_le (Yd)
 have hrow : vmap ((bts t).map fun b => Value.int IntKind.u8 (b.toNat : Int)) = rowV encB (bts t) := (IV' _).symm
 have hne : bts t ≠ [] := fun e => by have : t.size = 0 := congrArg List.length e; omega
 have b0 : t.size.ble t.size = true := by rw [Nat.ble_eq]; exact Yd
 have h1 := Q6' (List.take t.size t.data.toList)
 refine (LP' (fun h => ?_) fun h => ?_ : Tri Tryz.prog W fWS [.ptr 0 0, sv t] [(0, bldO s)] (.tuple [iv (Int.ofNat t.size), .v .nilIface]) [(0, bU (bts s ++ bts t)), (1002, rB (bts s ++ bts t))]).post (QC' (by rw [CQ']) (by simp [hne]) ⟨⟨Ye, Ye, Ye⟩, Ye⟩)
 ·rw [h, List.nil_append]
  have hb := PE' (n := t.size) (by omega)
  refine AD' (con := [(fCC, cCC)]) (hints := A9' [(fWS, 2, 6, ho 1100 (rB (bts t)))]) (lc := []) [0, 1100] rfl (fun F hF => AO' QZ') (fun F _ => noL) fun F => ?_
  refine Yj (a9' W t F) ⟨⟨?_, (AJ' (vs' := [.tuple [iv (Int.ofNat t.size), .v .nilIface]]) (H' := [(0, bU (bts t)), (1002, rB (bts t))]) [(1002, 1100)] rfl rfl (Yb) ⟨⟨_, rfl, Yc⟩, ⟨_, rfl, H6' rfl rfl⟩, Ye⟩).fits rfl⟩⟩
  simp only [Cnd.holds, Nat.blt_eq, true_and, and_true]
  and_intros
  all_goals first
   | exact b0
   | exact h1
   | exact h0
   | exact hb.1
   | exact hb.2
   | (rw [htk, hrow]; exact Yc) | (with_reducible first | exact Ye | exact Yf | exact A4' _ | assumption) | exact Yf | ((repeat (first | exact VW.nil | refine Yg ?_ | refine Yh ?_ | refine Yi ?_)); done)
 ·have hb := PE' (n := (bts s).length + t.size) (by rw [BJ']; omega)
  have hin : (0 + (bts s).length * 1).ble (rowV encB (bts s)).length = true := IO' rfl
  have hfu : (List.take ((bts s).length * 1) (List.drop 0 (rowV encB (bts s)))).length.beq ((bts s).length * 1) = true := CX' rfl
  have had : List.take ((bts s).length * 1) (List.drop 0 (rowV encB (bts s))) ++ rowV encB (bts t) = rowV encB (bts s ++ bts t) := LO' rfl _
  refine AD' (con := [(fCC, cCC)]) (hints := A9' [(fWS, 2, 6, ho 1100 (rB (bts s ++ bts t)))]) (lc := []) [0, 1100] rfl (fun F hF => AO' QZ') (fun F _ => noL) fun F => ?_
  refine Yj (a8' W (bts s) t F) ⟨⟨?_, (AJ' (vs' := [.tuple [iv (Int.ofNat t.size), .v .nilIface]]) (H' := [(0, bU (bts s ++ bts t)), (1002, rB (bts s ++ bts t))]) [(1002, 1100)] rfl rfl (Yb) ⟨⟨_, rfl, by unfold bU; rw [List.length_append]; exact Yc⟩, ⟨_, rfl, H6' rfl rfl⟩, Ye⟩).fits rfl⟩⟩
  simp only [Cnd.holds, Nat.blt_eq, true_and, and_true]
  and_intros
  all_goals first
   | exact b0
   | exact h1
   | exact h0
   | exact hin
   | exact hb.1
   | exact hb.2
   | exact hfu
   | (rw [htk, hrow, had]; exact Yc) | (with_reducible first | exact Ye | exact Yf | exact A4' _ | assumption) | exact Yf | ((repeat (first | exact VW.nil | refine Yg ?_ | refine Yh ?_ | refine Yi ?_)); done)
noncomputable section
abbrev fQ : Nat := 37
abbrev fHx : Nat := 62
abbrev fDec : Nat := 63
abbrev tBp : TypeId := 2 * 49
structure BS where
 o : Nat
 b : Nat
 s : ByteArray
 t : ByteArray
 c : UInt8
def gOwn (a b : Nat) (t : ByteArray) (c : UInt8) : AP BS := .read a fun o => match o with
 | .own m _ => match m with
  | .text s => .ret ⟨a, b, s, t, c⟩
  | _ => .fail "builder"
 | _ => .fail "builder"
def gWB : List AV → AP BS := fun args => match args with
 | [.ptr a _, .v (.int .u8 z)] => match z with
  | .ofNat n => gOwn a 0 nil0 (UInt8.ofNat n)
  | _ => .fail "byte"
 | _ => .fail "byte"
def gWS : List AV → AP BS := fun args => match args with
 | [.ptr a _, .v (.string t)] => gOwn a 0 t 0
 | _ => .fail "text"
def gHx : List AV → AP BS := fun args => match args with
 | [.v (.string t), .v (.int .u8 z), .ptr b _] => match z with
  | .ofNat n => .read b fun o => match o with
   | .cells [.ptr a _] _ => gOwn a b t (UInt8.ofNat n)
   | _ => .fail "hex"
  | _ => .fail "hex"
 | _ => .fail "hex"
def fitB (s : ByteArray) : Prop := s.size ≤ 1000000000
def cWB : List AV → Option (AP AV) := mkC gWB (fun q => fitB q.s) (fun q _ => q.o) (fun q => [.ptr 0 0, byv q.c]) (fun q => [(0, bldO q.s)]) (fun q => .leaf .ret [.v .nilIface] [(0, bldO (cat q.s (oneB q.c)))])
def cWS : List AV → Option (AP AV) := mkC gWS (fun q => fitB q.s ∧ fitB q.t ∧ 0 < q.t.size) (fun q _ => q.o) (fun q => [.ptr 0 0, sv q.t]) (fun q => [(0, bldO q.s)]) (fun q => .leaf .ret [.tuple [iv (Int.ofNat q.t.size), .v .nilIface]] [(0, bldO (cat q.s q.t))])
def oQ (q : ByteArray) : LH := [(0, bldO q), (1, .cells [.ptr 0 0] tBp)]
def hdL : List UInt8 := [48, 49, 50, 51, 52, 53, 54, 55, 56, 57, 97, 98, 99, 100, 101, 102]
def hd (n : Nat) : UInt8 := hdL.getD n 0
def hx (c : UInt8) : List UInt8 := [hd (c.toNat / 16), hd (c.toNat % 16)]
def nmHx (q : BS) : Nat → Nat := fun k => match Nat.beq k 0 with
 | true => q.o
 | false => q.b
def cHx : List AV → Option (AP AV) := mkC gHx (fun q => fitB q.s ∧ fitB q.t ∧ 0 < q.t.size ∧ q.s.size + q.t.size ≤ 999999990) nmHx (fun q => [sv q.t, byv q.c, .ptr 1 0]) (fun q => oQ q.s) (fun q => .leaf .ret [.tuple []] (oQ (cat q.s (tB (bts q.t ++ hx q.c)))))
noncomputable section
abbrev k16' (q0 : Nat) (q1 : UInt8) : Cnd := ((p' (q0 < 16)).a (f' (Wk (AV.v (Value.int IntKind.u8 ↑(([48,49,50,51,52,53,54,55,56,57,97,98,99,100,101,102] : List UInt8).getD q0 0).toNat)) (AV.v (Value.int IntKind.u8 ↑q1.toNat)))))
end
theorem oHx_eq (W : World) (q t : ByteArray) (c d e : UInt8) (n m : Nat) (F : HP) : wRun [(fWS, cWS), (fWB, cWB)] (A9' [(fHx, 1, 2, hv (.v (.int .u8 (Int.ofNat n)))), (fHx, 1, 3, h0v (byv d)), (fHx, 2, 2, hv (.v (.int .u8 (Int.ofNat m)))), (fHx, 2, 3, h0v (byv e))]) [] W fHx [sv t, byv c, .ptr 1 0] (oQ q) [0, 1] F = VT.leaf (AV.tuple []) [some (AO.own (Md.text (cat (cat (cat q t) (oneB (UInt8.ofNat d.toNat))) (oneB (UInt8.ofNat e.toNat)))) (exHP (bldR (cat (cat (cat q t) (oneB (UInt8.ofNat d.toNat))) (oneB (UInt8.ofNat e.toNat)))) bldL)),some (AO.cells [AV.ptr 0 0] 98)] 1100 (k8'.a (((p' (fitB q ∧ fitB t ∧ 0 < t.size)).a ((p' (VW [AV.ptr 0 0,s' t] [AV.ptr 0 0,s' t])).a (f' (OW (AO.own (Md.text q) (exHP (bldR q) bldL)) (AO.own (Md.text q) (exHP (bldR q) bldL)))))).a (k8'.a ((f' (Wk (AV.v (Value.int IntKind.u8 (((c.toNat : Nat) : Int).fdiv (Int.ofNat 16)))) (AV.v (Value.int IntKind.u8 (Int.ofNat n))))).a ((k16' n d).a (((p' (fitB (cat q t))).a ((p' (VW [AV.ptr 0 0,AV.v (Value.int IntKind.u8 ↑d.toNat)] [AV.ptr 0 0,AV.v (Value.int IntKind.u8 ↑(UInt8.ofNat d.toNat).toNat)])).a (f' (OW (AO.own (Md.text (cat q t)) (exHP (bldR (cat q t)) bldL)) (AO.own (Md.text (cat q t)) (exHP (bldR (cat q t)) bldL)))))).a (k8'.a ((f' (Wk (AV.v (Value.int IntKind.u8 (IntKind.u8.wrap ↑(BitVec.ofInt 8 ↑c.toNat &&& BitVec.ofInt 8 (Int.ofNat 15)).toNat))) (AV.v (Value.int IntKind.u8 (Int.ofNat m))))).a ((k16' m e).a (((p' (fitB (cat (cat q t) (oneB (UInt8.ofNat d.toNat))))).a ((p' (VW [AV.ptr 0 0,AV.v (Value.int IntKind.u8 ↑e.toNat)] [AV.ptr 0 0,AV.v (Value.int IntKind.u8 ↑(UInt8.ofNat e.toNat).toNat)])).a (f' (OW (AO.own (Md.text (cat (cat q t) (oneB (UInt8.ofNat d.toNat)))) (exHP (bldR (cat (cat q t) (oneB (UInt8.ofNat d.toNat)))) bldL)) (AO.own (Md.text (cat (cat q t) (oneB (UInt8.ofNat d.toNat)))) (exHP (bldR (cat (cat q t) (oneB (UInt8.ofNat d.toNat)))) bldL)))))).a t')))))))))) := by kernel_rfl
def dR (l : List UInt8) : Nat := (Lib.decodeL l).1
def dN (l : List UInt8) : Nat := (Lib.decodeL l).2
def cDec : List AV → Option (AP AV) := vC g1s (fun s => 0 < s.size) (fun s => .tuple [.v (.int .i32 (Int.ofNat (dR (bts s)))), iv (Int.ofNat (dN (bts s)))])
def conQ : HN' := [(fDec, cDec), (fHx, cHx), (fWS, cWS), (fWB, cWB)]
def aQ (l : ByteArray) : List (Nat × AV) := [(1, sv l), (2, .ptr 1 0), (4, .func (.func fHx) [] [.ptr 1 0])]
def hQ (c : UInt8) (p r : ByteArray) : B8' := A9' [(fQ, 3, 2, hv (.lit true)), (fQ, 5, 1, h0v (byv c)), (fQ, 6, 3, h0v (sv p)), (fQ, 14, 2, h0v (sv r))]
theorem oQR_eq (W : World) (q l p r : ByteArray) (c : UInt8) (F : HP) : AR' conQ (hQ c p r) [] W fQ (A2' fQ 3) (tms 0 59 (aQ l)) (oQ q) [0, 1] [1, 2, 4] F = VT.ite (Int.ofNat (dR (bts l)) == Int.ofNat 65533) (VT.ite (Int.ofNat (dN (bts l)) == Int.ofNat 1) (VT.leaf (AX.normal,[s' r,AV.ptr 1 0,AV.func (Fn.func 62) [] [AV.ptr 1 0]],59) [some (AO.own (Md.text (cat q (tB [92,117,100,99,hd ((UInt8.ofNat c.toNat).toNat / 16),hd ((UInt8.ofNat c.toNat).toNat % 16)]))) (exHP (bldR (cat q (tB [92,117,100,99,hd ((UInt8.ofNat c.toNat).toNat / 16),hd ((UInt8.ofNat c.toNat).toNat % 16)]))) bldL)),some (AO.cells [AV.ptr 0 0] 98)] 1100 ((f' (Wk (b' (decide (↑l.size > Int.ofNat 0))) j')).a ((f' (0 < l.size)).a (((p' (0 < l.size)).a (f' (Wk (AV.v (Value.int IntKind.u8 ↑(l.data.toList.getD 0 0).toNat)) (AV.v (Value.int IntKind.u8 ↑c.toNat))))).a (((p' (fitB q ∧ fitB (ByteArray.mk (Array.mk [92,117,100,99])) ∧ 0 < 4 ∧ q.size + 4 ≤ 999999990)).a ((p' (VW [s' (ByteArray.mk (Array.mk [92,117,100,99])),AV.v (Value.int IntKind.u8 ↑c.toNat),AV.ptr 1 0] [s' (ByteArray.mk (Array.mk [92,117,100,99])),AV.v (Value.int IntKind.u8 ↑(UInt8.ofNat c.toNat).toNat),AV.ptr 1 0])).a ((p' (OW (AO.own (Md.text q) (exHP (bldR q) bldL)) (AO.own (Md.text q) (exHP (bldR q) bldL)))).a (f' (OW (AO.cells [AV.ptr 0 0] 98) (AO.cells [AV.ptr 0 0] 98)))))).a (((p' (dN (bts l) ≤ l.size)).a ((p' (l.size ≤ l.size)).a (f' (Wk (s' (l.extract (dN (bts l)) l.size)) (s' r))))).a t')))))) (VT.ite (↑c.toNat == Int.ofNat 34) (VT.leaf (AX.normal,[s' r,AV.ptr 1 0,AV.func (Fn.func 62) [] [AV.ptr 1 0]],59) [some (AO.own (Md.text (cat (cat q (oneB (UInt8.ofNat 92))) (oneB (UInt8.ofNat c.toNat)))) (exHP (bldR (cat (cat q (oneB (UInt8.ofNat 92))) (oneB (UInt8.ofNat c.toNat)))) bldL)),some (AO.cells [AV.ptr 0 0] 98)] 1100 ((f' (Wk (b' (decide (↑l.size > Int.ofNat 0))) j')).a ((f' (0 < l.size)).a (((p' (0 < l.size)).a (f' (Wk (AV.v (Value.int IntKind.u8 ↑(l.data.toList.getD 0 0).toNat)) (AV.v (Value.int IntKind.u8 ↑c.toNat))))).a ((f' (true = true)).a (((p' (fitB q)).a ((p' (VW [AV.ptr 0 0,AV.v (Value.int IntKind.u8 (Int.ofNat 92))] [AV.ptr 0 0,AV.v (Value.int IntKind.u8 (Int.ofNat 92))])).a (f' (OW (AO.own (Md.text q) (exHP (bldR q) bldL)) (AO.own (Md.text q) (exHP (bldR q) bldL)))))).a ((f' (true = true)).a (((p' (fitB (cat q (oneB (UInt8.ofNat 92))))).a ((p' (VW [AV.ptr 0 0,AV.v (Value.int IntKind.u8 ↑c.toNat)] [AV.ptr 0 0,AV.v (Value.int IntKind.u8 ↑(UInt8.ofNat c.toNat).toNat)])).a (f' (OW (AO.own (Md.text (cat q (oneB (UInt8.ofNat 92)))) (exHP (bldR (cat q (oneB (UInt8.ofNat 92)))) bldL)) (AO.own (Md.text (cat q (oneB (UInt8.ofNat 92)))) (exHP (bldR (cat q (oneB (UInt8.ofNat 92)))) bldL)))))).a (((p' (dN (bts l) ≤ l.size)).a ((p' (l.size ≤ l.size)).a (f' (Wk (s' (l.extract (dN (bts l)) l.size)) (s' r))))).a t'))))))))) (VT.ite (↑c.toNat == Int.ofNat 92) (VT.leaf (AX.normal,[s' r,AV.ptr 1 0,AV.func (Fn.func 62) [] [AV.ptr 1 0]],59) [some (AO.own (Md.text (cat (cat q (oneB (UInt8.ofNat 92))) (oneB (UInt8.ofNat c.toNat)))) (exHP (bldR (cat (cat q (oneB (UInt8.ofNat 92))) (oneB (UInt8.ofNat c.toNat)))) bldL)),some (AO.cells [AV.ptr 0 0] 98)] 1100 ((f' (Wk (b' (decide (↑l.size > Int.ofNat 0))) j')).a ((f' (0 < l.size)).a (((p' (0 < l.size)).a (f' (Wk (AV.v (Value.int IntKind.u8 ↑(l.data.toList.getD 0 0).toNat)) (AV.v (Value.int IntKind.u8 ↑c.toNat))))).a ((f' (true = true)).a (((p' (fitB q)).a ((p' (VW [AV.ptr 0 0,AV.v (Value.int IntKind.u8 (Int.ofNat 92))] [AV.ptr 0 0,AV.v (Value.int IntKind.u8 (Int.ofNat 92))])).a (f' (OW (AO.own (Md.text q) (exHP (bldR q) bldL)) (AO.own (Md.text q) (exHP (bldR q) bldL)))))).a ((f' (true = true)).a (((p' (fitB (cat q (oneB (UInt8.ofNat 92))))).a ((p' (VW [AV.ptr 0 0,AV.v (Value.int IntKind.u8 ↑c.toNat)] [AV.ptr 0 0,AV.v (Value.int IntKind.u8 ↑(UInt8.ofNat c.toNat).toNat)])).a (f' (OW (AO.own (Md.text (cat q (oneB (UInt8.ofNat 92)))) (exHP (bldR (cat q (oneB (UInt8.ofNat 92)))) bldL)) (AO.own (Md.text (cat q (oneB (UInt8.ofNat 92)))) (exHP (bldR (cat q (oneB (UInt8.ofNat 92)))) bldL)))))).a (((p' (dN (bts l) ≤ l.size)).a ((p' (l.size ≤ l.size)).a (f' (Wk (s' (l.extract (dN (bts l)) l.size)) (s' r))))).a t'))))))))) (VT.ite (decide (↑c.toNat < Int.ofNat 32)) (VT.leaf (AX.normal,[s' r,AV.ptr 1 0,AV.func (Fn.func 62) [] [AV.ptr 1 0]],59) [some (AO.own (Md.text (cat q (tB [92,117,48,48,hd ((UInt8.ofNat c.toNat).toNat / 16),hd ((UInt8.ofNat c.toNat).toNat % 16)]))) (exHP (bldR (cat q (tB [92,117,48,48,hd ((UInt8.ofNat c.toNat).toNat / 16),hd ((UInt8.ofNat c.toNat).toNat % 16)]))) bldL)),some (AO.cells [AV.ptr 0 0] 98)] 1100 ((f' (Wk (b' (decide (↑l.size > Int.ofNat 0))) j')).a ((f' (0 < l.size)).a (((p' (0 < l.size)).a (f' (Wk (AV.v (Value.int IntKind.u8 ↑(l.data.toList.getD 0 0).toNat)) (AV.v (Value.int IntKind.u8 ↑c.toNat))))).a (((p' (fitB q ∧ fitB (ByteArray.mk (Array.mk [92,117,48,48])) ∧ 0 < 4 ∧ q.size + 4 ≤ 999999990)).a ((p' (VW [s' (ByteArray.mk (Array.mk [92,117,48,48])),AV.v (Value.int IntKind.u8 ↑c.toNat),AV.ptr 1 0] [s' (ByteArray.mk (Array.mk [92,117,48,48])),AV.v (Value.int IntKind.u8 ↑(UInt8.ofNat c.toNat).toNat),AV.ptr 1 0])).a ((p' (OW (AO.own (Md.text q) (exHP (bldR q) bldL)) (AO.own (Md.text q) (exHP (bldR q) bldL)))).a (f' (OW (AO.cells [AV.ptr 0 0] 98) (AO.cells [AV.ptr 0 0] 98)))))).a (((p' (dN (bts l) ≤ l.size)).a ((p' (l.size ≤ l.size)).a (f' (Wk (s' (l.extract (dN (bts l)) l.size)) (s' r))))).a t')))))) (VT.leaf (AX.normal,[s' r,AV.ptr 1 0,AV.func (Fn.func 62) [] [AV.ptr 1 0]],59) [some (AO.own (Md.text (cat q p)) (exHP (bldR (cat q p)) bldL)),some (AO.cells [AV.ptr 0 0] 98)] 1100 ((f' (Wk (b' (decide (↑l.size > Int.ofNat 0))) j')).a ((f' (0 < l.size)).a (((p' (0 < l.size)).a (f' (Wk (AV.v (Value.int IntKind.u8 ↑(l.data.toList.getD 0 0).toNat)) (AV.v (Value.int IntKind.u8 ↑c.toNat))))).a ((f' (true = true)).a (((p' (0 ≤ dN (bts l))).a ((p' (dN (bts l) ≤ l.size)).a (f' (Wk (s' (l.extract 0 (dN (bts l)))) (s' p))))).a (((p' (fitB q ∧ fitB p ∧ 0 < p.size)).a ((p' (VW [AV.ptr 0 0,s' p] [AV.ptr 0 0,s' p])).a (f' (OW (AO.own (Md.text q) (exHP (bldR q) bldL)) (AO.own (Md.text q) (exHP (bldR q) bldL)))))).a (((p' (dN (bts l) ≤ l.size)).a ((p' (l.size ≤ l.size)).a (f' (Wk (s' (l.extract (dN (bts l)) l.size)) (s' r))))).a t')))))))))))) (VT.ite (↑c.toNat == Int.ofNat 34) (VT.leaf (AX.normal,[s' r,AV.ptr 1 0,AV.func (Fn.func 62) [] [AV.ptr 1 0]],59) [some (AO.own (Md.text (cat (cat q (oneB (UInt8.ofNat 92))) (oneB (UInt8.ofNat c.toNat)))) (exHP (bldR (cat (cat q (oneB (UInt8.ofNat 92))) (oneB (UInt8.ofNat c.toNat)))) bldL)),some (AO.cells [AV.ptr 0 0] 98)] 1100 ((f' (Wk (b' (decide (↑l.size > Int.ofNat 0))) j')).a ((f' (0 < l.size)).a (((p' (0 < l.size)).a (f' (Wk (AV.v (Value.int IntKind.u8 ↑(l.data.toList.getD 0 0).toNat)) (AV.v (Value.int IntKind.u8 ↑c.toNat))))).a ((f' (true = true)).a (((p' (fitB q)).a ((p' (VW [AV.ptr 0 0,AV.v (Value.int IntKind.u8 (Int.ofNat 92))] [AV.ptr 0 0,AV.v (Value.int IntKind.u8 (Int.ofNat 92))])).a (f' (OW (AO.own (Md.text q) (exHP (bldR q) bldL)) (AO.own (Md.text q) (exHP (bldR q) bldL)))))).a ((f' (true = true)).a (((p' (fitB (cat q (oneB (UInt8.ofNat 92))))).a ((p' (VW [AV.ptr 0 0,AV.v (Value.int IntKind.u8 ↑c.toNat)] [AV.ptr 0 0,AV.v (Value.int IntKind.u8 ↑(UInt8.ofNat c.toNat).toNat)])).a (f' (OW (AO.own (Md.text (cat q (oneB (UInt8.ofNat 92)))) (exHP (bldR (cat q (oneB (UInt8.ofNat 92)))) bldL)) (AO.own (Md.text (cat q (oneB (UInt8.ofNat 92)))) (exHP (bldR (cat q (oneB (UInt8.ofNat 92)))) bldL)))))).a (((p' (dN (bts l) ≤ l.size)).a ((p' (l.size ≤ l.size)).a (f' (Wk (s' (l.extract (dN (bts l)) l.size)) (s' r))))).a t'))))))))) (VT.ite (↑c.toNat == Int.ofNat 92) (VT.leaf (AX.normal,[s' r,AV.ptr 1 0,AV.func (Fn.func 62) [] [AV.ptr 1 0]],59) [some (AO.own (Md.text (cat (cat q (oneB (UInt8.ofNat 92))) (oneB (UInt8.ofNat c.toNat)))) (exHP (bldR (cat (cat q (oneB (UInt8.ofNat 92))) (oneB (UInt8.ofNat c.toNat)))) bldL)),some (AO.cells [AV.ptr 0 0] 98)] 1100 ((f' (Wk (b' (decide (↑l.size > Int.ofNat 0))) j')).a ((f' (0 < l.size)).a (((p' (0 < l.size)).a (f' (Wk (AV.v (Value.int IntKind.u8 ↑(l.data.toList.getD 0 0).toNat)) (AV.v (Value.int IntKind.u8 ↑c.toNat))))).a ((f' (true = true)).a (((p' (fitB q)).a ((p' (VW [AV.ptr 0 0,AV.v (Value.int IntKind.u8 (Int.ofNat 92))] [AV.ptr 0 0,AV.v (Value.int IntKind.u8 (Int.ofNat 92))])).a (f' (OW (AO.own (Md.text q) (exHP (bldR q) bldL)) (AO.own (Md.text q) (exHP (bldR q) bldL)))))).a ((f' (true = true)).a (((p' (fitB (cat q (oneB (UInt8.ofNat 92))))).a ((p' (VW [AV.ptr 0 0,AV.v (Value.int IntKind.u8 ↑c.toNat)] [AV.ptr 0 0,AV.v (Value.int IntKind.u8 ↑(UInt8.ofNat c.toNat).toNat)])).a (f' (OW (AO.own (Md.text (cat q (oneB (UInt8.ofNat 92)))) (exHP (bldR (cat q (oneB (UInt8.ofNat 92)))) bldL)) (AO.own (Md.text (cat q (oneB (UInt8.ofNat 92)))) (exHP (bldR (cat q (oneB (UInt8.ofNat 92)))) bldL)))))).a (((p' (dN (bts l) ≤ l.size)).a ((p' (l.size ≤ l.size)).a (f' (Wk (s' (l.extract (dN (bts l)) l.size)) (s' r))))).a t'))))))))) (VT.ite (decide (↑c.toNat < Int.ofNat 32)) (VT.leaf (AX.normal,[s' r,AV.ptr 1 0,AV.func (Fn.func 62) [] [AV.ptr 1 0]],59) [some (AO.own (Md.text (cat q (tB [92,117,48,48,hd ((UInt8.ofNat c.toNat).toNat / 16),hd ((UInt8.ofNat c.toNat).toNat % 16)]))) (exHP (bldR (cat q (tB [92,117,48,48,hd ((UInt8.ofNat c.toNat).toNat / 16),hd ((UInt8.ofNat c.toNat).toNat % 16)]))) bldL)),some (AO.cells [AV.ptr 0 0] 98)] 1100 ((f' (Wk (b' (decide (↑l.size > Int.ofNat 0))) j')).a ((f' (0 < l.size)).a (((p' (0 < l.size)).a (f' (Wk (AV.v (Value.int IntKind.u8 ↑(l.data.toList.getD 0 0).toNat)) (AV.v (Value.int IntKind.u8 ↑c.toNat))))).a (((p' (fitB q ∧ fitB (ByteArray.mk (Array.mk [92,117,48,48])) ∧ 0 < 4 ∧ q.size + 4 ≤ 999999990)).a ((p' (VW [s' (ByteArray.mk (Array.mk [92,117,48,48])),AV.v (Value.int IntKind.u8 ↑c.toNat),AV.ptr 1 0] [s' (ByteArray.mk (Array.mk [92,117,48,48])),AV.v (Value.int IntKind.u8 ↑(UInt8.ofNat c.toNat).toNat),AV.ptr 1 0])).a ((p' (OW (AO.own (Md.text q) (exHP (bldR q) bldL)) (AO.own (Md.text q) (exHP (bldR q) bldL)))).a (f' (OW (AO.cells [AV.ptr 0 0] 98) (AO.cells [AV.ptr 0 0] 98)))))).a (((p' (dN (bts l) ≤ l.size)).a ((p' (l.size ≤ l.size)).a (f' (Wk (s' (l.extract (dN (bts l)) l.size)) (s' r))))).a t')))))) (VT.leaf (AX.normal,[s' r,AV.ptr 1 0,AV.func (Fn.func 62) [] [AV.ptr 1 0]],59) [some (AO.own (Md.text (cat q p)) (exHP (bldR (cat q p)) bldL)),some (AO.cells [AV.ptr 0 0] 98)] 1100 ((f' (Wk (b' (decide (↑l.size > Int.ofNat 0))) j')).a ((f' (0 < l.size)).a (((p' (0 < l.size)).a (f' (Wk (AV.v (Value.int IntKind.u8 ↑(l.data.toList.getD 0 0).toNat)) (AV.v (Value.int IntKind.u8 ↑c.toNat))))).a ((f' (true = true)).a (((p' (0 ≤ dN (bts l))).a ((p' (dN (bts l) ≤ l.size)).a (f' (Wk (s' (l.extract 0 (dN (bts l)))) (s' p))))).a (((p' (fitB q ∧ fitB p ∧ 0 < p.size)).a ((p' (VW [AV.ptr 0 0,s' p] [AV.ptr 0 0,s' p])).a (f' (OW (AO.own (Md.text q) (exHP (bldR q) bldL)) (AO.own (Md.text q) (exHP (bldR q) bldL)))))).a (((p' (dN (bts l) ≤ l.size)).a ((p' (l.size ≤ l.size)).a (f' (Wk (s' (l.extract (dN (bts l)) l.size)) (s' r))))).a t'))))))))))) := by kernel_rfl
theorem oQE_eq (W : World) (q l : ByteArray) (F : HP) : AR' conQ (A9' [(fQ, 3, 2, hv (.lit false))]) [] W fQ (A2' fQ 3) (tms 0 59 (aQ l)) (oQ q) [0, 1] [1, 2, 4] F = VT.leaf (AX.exit 0,[s' l,AV.ptr 1 0,AV.func (Fn.func 62) [] [AV.ptr 1 0]],59) [some (AO.own (Md.text q) (exHP (bldR q) bldL)),some (AO.cells [AV.ptr 0 0] 98)] 1100 ((f' (Wk (b' (decide (↑l.size > Int.ofNat 0))) g')).a t') := by kernel_rfl
theorem L8' (l : List UInt8) : 1 ≤ dN l := Lib.decodeL_width l
def errQ (l : List UInt8) : Bool := Int.ofNat (dR l) == Int.ofNat 65533 && (Int.ofNat (dN l) == Int.ofNat 1)
def CF' (c : UInt8) (l : List UInt8) : List UInt8 := if errQ l then [92, 117, 100, 99] ++ hx c else if c = 34 ∨ c = 92 then [92, c] else if c.toNat < 32 then [92, 117, 48, 48] ++ hx c else l.take (dN l)
def qL : List UInt8 → List UInt8
 | [] => []
 | c :: l => CF' c (c :: l) ++ qL ((c :: l).drop (dN (c :: l)))
 termination_by l => l.length
 decreasing_by
  have := L8' (c :: l)
  rw [List.length_drop, List.length_cons]
  omega
def qT (s t : ByteArray) : ByteArray := cat s (tB (qL (bts t)))
def gQ (tmps : List AV) : AP (Nat × Nat × ByteArray × ByteArray) := match getL tmps 1 with
 | .v (.string l) => match getL tmps 2 with
  | .ptr b _ => .read b fun o => match o with
   | .cells [.ptr a _] _ => .read a fun o => match o with
    | .own m _ => match m with
     | .text s => .ret (a, b, s, l)
     | _ => .fail "quote"
    | _ => .fail "quote"
   | _ => .fail "quote"
  | _ => .fail "quote"
 | _ => .fail "quote"
def lQ (s t : ByteArray) : List AV → AP (AX × List AV) := mkL gQ (fun q => q.2.2.1 = s ∧ q.2.2.2 = t) (fun q k => match Nat.beq k 0 with | true => q.1 | false => q.2.1) (fun q => tms 0 59 (aQ q.2.2.2)) (fun q => oQ q.2.2.1) (fun q => .leaf (.exit 0) (tms 0 59 [(2, .ptr 1 0)]) (oQ (qT q.2.2.1 q.2.2.2)))
theorem oQ_eq (W : World) (s t : ByteArray) (F : HP) : wRun conQ DL' [(fQ, 3, A2' fQ 3, lQ (cat s (oneB 34)) t)] W fQ [.ptr 0 0, sv t] [(0, bldO s)] [0] F = VT.leaf (AV.tuple []) [some (AO.own (Md.text (cat (qT (cat s (oneB (UInt8.ofNat 34))) t) (oneB (UInt8.ofNat 34)))) (exHP (bldR (cat (qT (cat s (oneB (UInt8.ofNat 34))) t) (oneB (UInt8.ofNat 34)))) bldL))] 1101 (k8'.a (((p' (fitB s)).a ((p' (VW [AV.ptr 0 0,AV.v (Value.int IntKind.u8 (Int.ofNat 34))] [AV.ptr 0 0,AV.v (Value.int IntKind.u8 (Int.ofNat 34))])).a (f' (OW (AO.own (Md.text s) (exHP (bldR s) bldL)) (AO.own (Md.text s) (exHP (bldR s) bldL)))))).a ((p' ((fQ,3,A2' fQ 3,lQ (cat s (oneB 34)) t).snd.snd.fst = (fQ,3,A2' fQ 3,lQ (cat s (oneB 34)) t).snd.snd.fst)).a ((p' (cat s (oneB (UInt8.ofNat 34)) = cat s (oneB 34) ∧ t = t)).a ((p' (VW (AV.ptr 0 0::s' t::AV.ptr 1100 0::u'::AV.func (Fn.func 62) [] [AV.ptr 1100 0]::u'::u'::u'::AV.func (Fn.func 62) [] [AV.ptr 1100 0]::AV.ptr 0 0::AV.v Value.nilIface::ru16 (ru16 (ru16 ([])))) (a'::s' t::AV.ptr 1100 0::a'::AV.func (Fn.func 62) [] [AV.ptr 1100 0]::ra16 (ra16 (ra16 (ra4 (a'::a'::[]))))))).a ((p' (OW (AO.own (Md.text (cat s (oneB (UInt8.ofNat 34)))) (exHP (bldR (cat s (oneB (UInt8.ofNat 34)))) bldL)) (AO.own (Md.text (cat s (oneB (UInt8.ofNat 34)))) (exHP (bldR (cat s (oneB (UInt8.ofNat 34)))) bldL)))).a ((p' (OW (AO.cells [AV.ptr 0 0] 98) (AO.cells [AV.ptr 0 0] 98))).a (k8'.a (((p' (fitB (qT (cat s (oneB (UInt8.ofNat 34))) t))).a ((p' (VW [AV.ptr 0 0,AV.v (Value.int IntKind.u8 (Int.ofNat 34))] [AV.ptr 0 0,AV.v (Value.int IntKind.u8 (Int.ofNat 34))])).a (f' (OW (AO.own (Md.text (qT (cat s (oneB (UInt8.ofNat 34))) t)) (exHP (bldR (qT (cat s (oneB (UInt8.ofNat 34))) t)) bldL)) (AO.own (Md.text (qT (cat s (oneB (UInt8.ofNat 34))) t)) (exHP (bldR (qT (cat s (oneB (UInt8.ofNat 34))) t)) bldL)))))).a t'))))))))) := by kernel_rfl
end
structure LWQ (W : World) : Prop where
 tabs : Lib.Utf8Tabs 2 3 W
variable {W : World}
theorem LU' (a b : Nat) (t : ByteArray) (c : UInt8) : RO (gOwn a b t c) := by
 unfold gOwn
 refine RO.read _ _ fun o => ?_
 split
 ·split
  ·exact RO.ret _
  ·exact RO.fail _
 ·exact RO.fail _
theorem gWB_ro (args : List AV) : RO (gWB args) := by
 unfold gWB
 split
 ·split
  ·exact LU' _ _ _ _
  ·exact RO.fail _
 ·exact RO.fail _
theorem YV' (args : List AV) : RO (gWS args) := by
 unfold gWS
 split
 ·exact LU' _ _ _ _
 ·exact RO.fail _
theorem gHx_ro (args : List AV) : RO (gHx args) := by
 unfold gHx
 split
 ·split
  ·refine RO.read _ _ fun o => ?_
   split
   ·exact LU' _ _ _ _
   ·exact RO.fail _
  ·exact RO.fail _
 ·exact RO.fail _
theorem WL' (K : Nat → Bool) (h : K 0 = true) (q : ByteArray) : ∀ x ∈ oQ q, x.2.cl K := A1' Ye (A1' ⟨h, Ye⟩ A7')
theorem LB' (F : HP) (hF : AK' W F) : C1OK Tryz.prog F fWB cWB :=
 BR' hF (fun _ => .v .nilIface) gWB_ro (fun _ => rfl) (fun q hq => WB_tri q.s q.c hq) fun q => ⟨rfl, rfl, ⟨rfl, Ye, Ye⟩, A1' Ye A7', ⟨Ye, Ye⟩, A1' Ye A7'⟩
theorem LA' (F : HP) (hF : AK' W F) : C1OK Tryz.prog F fWS cWS :=
 BR' hF (fun q => .tuple [iv (Int.ofNat q.t.size), .v .nilIface]) YV' (fun _ => rfl) (fun q hq => WS_tri q.s q.t hq.1 hq.2.1 hq.2.2) fun q => ⟨rfl, rfl, ⟨rfl, Ye, Ye⟩, A1' Ye A7', ⟨⟨Ye, Ye, Ye⟩, Ye⟩, A1' Ye A7'⟩
theorem IE' (c : UInt8) : UInt8.ofNat c.toNat = c := UInt8.ofNat_toNat
theorem SF' {i : Nat} (c : UInt8) : VW [AV.ptr i 0, AV.v (.int .u8 (c.toNat : Int))] [AV.ptr i 0, AV.v (.int .u8 ((UInt8.ofNat c.toNat).toNat : Int))] := by rw [IE']; exact Yb
theorem hd_at {n : Nat} (h : n < 16) : Wk (AV.v (Value.int IntKind.u8 (([48, 49, 50, 51, 52, 53, 54, 55, 56, 57, 97, 98, 99, 100, 101, 102] : List UInt8).getD n 0).toNat)) (AV.v (Value.int IntKind.u8 (hd n).toNat)) := Ya
theorem shr4 (c : UInt8) : ((c.toNat : Nat) : Int).fdiv (Int.ofNat 16) = Int.ofNat (c.toNat / 16) := by
 simp only [Z0]
 rw [Int.fdiv_eq_ediv_of_nonneg _ (by omega)]
 omega
theorem and15 : ∀ c : Fin 256, IntKind.u8.wrap ((BitVec.ofInt 8 (c.val : Int) &&& BitVec.ofInt 8 (Int.ofNat 15)).toNat : Int) = Int.ofNat (c.val % 16) := by decide +kernel
theorem and15' (c : UInt8) : IntKind.u8.wrap ((BitVec.ofInt 8 (c.toNat : Int) &&& BitVec.ofInt 8 (Int.ofNat 15)).toNat : Int) = Int.ofNat (c.toNat % 16) := and15 ⟨c.toNat, c.toNat_lt⟩
theorem Hx_tri (q t : ByteArray) (c : UInt8) (hq : q.size ≤ 1000000000) (ht : t.size ≤ 1000000000) (h0 : 0 < t.size) (hqt : q.size + t.size ≤ 999999990) : Tri Tryz.prog W fHx [sv t, byv c, .ptr 1 0] (oQ q) (.tuple []) (oQ (cat q (tB (bts t ++ hx c)))) := by
 have hc := c.toNat_lt
 have n1 : c.toNat / 16 < 16 := by omega
 have n2 : c.toNat % 16 < 16 := by omega
 have e1 := shr4 c
 have e2 := and15' c
 have f1 : fitB (cat q t) := by unfold fitB; rw [BT']; omega
 have f2 : fitB (cat (cat q t) (oneB (UInt8.ofNat (hd (c.toNat / 16)).toNat))) := by
  unfold fitB; rw [BT', BT']
  have : (oneB (UInt8.ofNat (hd (c.toNat / 16)).toNat)).size = 1 := rfl
  omega
 have hfin : cat (cat (cat q t) (oneB (UInt8.ofNat (hd (c.toNat / 16)).toNat))) (oneB (UInt8.ofNat (hd (c.toNat % 16)).toNat)) = cat q (tB (bts t ++ hx c)) := by
  rw [IE', IE', PN', PN']
  rfl
 refine AD' (con := [(fWS, cWS), (fWB, cWB)]) (hints := A9' [(fHx, 1, 2, hv (.v (.int .u8 (Int.ofNat (c.toNat / 16))))), (fHx, 1, 3, h0v (byv (hd (c.toNat / 16)))), (fHx, 2, 2, hv (.v (.int .u8 (Int.ofNat (c.toNat % 16))))), (fHx, 2, 3, h0v (byv (hd (c.toNat % 16))))]) (lc := []) [0, 1] rfl (fun F hF => AC' (LA' F hF) (AO' (LB' F hF))) (fun F _ => noL) fun F => ?_
 refine Yj (oHx_eq W q t c (hd (c.toNat / 16)) (hd (c.toNat % 16)) (c.toNat / 16) (c.toNat % 16) F) ⟨⟨?_, (AJ' (vs' := [.tuple []]) (H' := oQ (cat q (tB (bts t ++ hx c)))) [] rfl rfl (Yb) ⟨⟨_, rfl, by rw [← hfin]; exact Yc⟩, ⟨_, rfl, Yc⟩, Ye⟩).fits rfl⟩⟩
 simp only [Cnd.holds, Nat.blt_eq, true_and, and_true]
 and_intros
 all_goals first
  | exact hq
  | exact ht
  | exact h0
  | exact n1
  | exact n2
  | exact wk_u8 e1
  | exact wk_u8 e2
  | exact hd_at n1
  | exact hd_at n2
  | exact f1
  | exact f2
  | exact SF' _ | (with_reducible first | exact Ye | exact Yf | exact A4' _ | assumption) | exact Yf | ((repeat (first | exact VW.nil | refine Yg ?_ | refine Yh ?_ | refine Yi ?_)); done)
variable {W : World}
theorem V1' (F : HP) (hF : AK' W F) : C1OK Tryz.prog F fHx cHx :=
 BR' hF (fun _ => .tuple []) gHx_ro (fun _ => rfl) (fun q hq => Hx_tri q.s q.t q.c hq.1 hq.2.1 hq.2.2.1 hq.2.2.2) fun q => ⟨rfl, rfl, ⟨Ye, Ye, rfl, Ye⟩, WL' _ rfl _, ⟨Ye, Ye⟩, WL' _ rfl _⟩
theorem dT' (s : ByteArray) (h : 0 < s.size) : Lib.decodeGo s = Lib.decodeL (bts s) := by
 unfold Lib.decodeGo Lib.decodeL
 rw [if_neg (by omega)]
 rfl
theorem PP' (hW : LWQ W) (F : HP) (hF : AK' W F) : C1OK Tryz.prog F fDec cDec :=
 VU' hF (fun s => [.string s]) (fun s => .tuple #[.int .i32 (Int.ofNat (dR (bts s))), .int .i64 (Int.ofNat (dN (bts s)))]) XJ' (fun p N => vr_t2 N _ _) fun s hs w hw => by
  have hT : Lib.Utf8Tabs 2 3 w := ⟨fun c hc => hw.cell (hW.tabs.1 c hc), fun i hi => ⟨hw.cell (hW.tabs.2 i hi).1, hw.cell (hW.tabs.2 i hi).2⟩⟩
  have h := Tryz.utf8_DecodeRuneInString s w hT
  rw [dT' s hs] at h
  exact h
theorem UQ' (l : List UInt8) (h : 0 < l.length) : dN l ≤ l.length := by
 unfold dN Lib.decodeL
 rw [Lib.decode_at]
 have hs : (ByteArray.mk l.toArray).size = l.length := by simp [ByteArray.size]
 rw [hs]
 unfold Lib.decodeN
 repeat' split
 all_goals (simp only; omega)
theorem Z1' (l : List UInt8) : dN l ≤ 4 := by
 unfold dN Lib.decodeL
 rw [Lib.decode_at]
 unfold Lib.decodeN
 repeat' split
 all_goals (simp only; omega)
theorem L4' (c : UInt8) : (hx c).length = 2 := rfl
theorem K4' (c : UInt8) (l : List UInt8) (h : 0 < l.length) : (CF' c l).length ≤ 6 * dN l ∧ 0 < (CF' c l).length := by
 have h1 := L8' l
 have h2 := UQ' l h
 unfold CF'
 repeat' split
 ·rw [List.length_append, L4']; simp only [List.length_cons, List.length_nil]; omega
 ·simp only [List.length_cons, List.length_nil]; omega
 ·rw [List.length_append, L4']; simp only [List.length_cons, List.length_nil]; omega
 ·rw [List.length_take]; omega
theorem JG' (c : UInt8) (l : List UInt8) : qL (c :: l) = CF' c (c :: l) ++ qL ((c :: l).drop (dN (c :: l))) := by rw [qL]
theorem YI' : ∀ (n : Nat) (l : List UInt8), l.length ≤ n → (qL l).length ≤ 6 * l.length
 | 0, l, h => by
  have : l = [] := List.eq_nil_of_length_eq_zero (by omega)
  subst this
  rw [qL]; simp
 | n + 1, [], h => by rw [qL]; simp
 | n + 1, c :: l, h => by
  have h1 := K4' c (c :: l) (by simp)
  have h2 := L8' (c :: l)
  have h3 := UQ' (c :: l) (by simp)
  have ih := YI' n ((c :: l).drop (dN (c :: l))) (by rw [List.length_drop, List.length_cons] at *; omega)
  rw [List.length_drop] at ih
  rw [JG', List.length_append]
  omega
theorem QT' {l : List UInt8} (h : (Int.ofNat (dR l) == Int.ofNat 65533) = false) : errQ l = false := by unfold errQ; rw [h]; rfl
theorem QS' {l : List UInt8} (h : (Int.ofNat (dN l) == Int.ofNat 1) = false) : errQ l = false := by unfold errQ; rw [h, Bool.and_false]
theorem c_eq {c : UInt8} {n : Nat} (hn : n < 256) : ((c.toNat : Int) == Int.ofNat n) = true ↔ c = UInt8.ofNat n := by
 rw [beq_iff_eq]
 constructor
 ·intro h
  simp only [Z0] at h
  have h2 : c.toNat = n := by omega
  rw [← h2, IE']
 ·intro h
  subst h
  simp only [Z0]
  rw [UInt8.toNat_ofNat']; omega
theorem tE {s : ByteArray} {c : UInt8} {l : List UInt8} (h1 : (Int.ofNat (dR l) == Int.ofNat 65533) = true) (h2 : (Int.ofNat (dN l) == Int.ofNat 1) = true) : cat s (tB [92, 117, 100, 99, hd ((UInt8.ofNat c.toNat).toNat / 16), hd ((UInt8.ofNat c.toNat).toNat % 16)]) = cat s (tB (CF' c l)) := by
 have : errQ l = true := by unfold errQ; rw [h1, h2]; rfl
 unfold CF'
 rw [if_pos this, IE']
 rfl
theorem tQ {s : ByteArray} {c : UInt8} {l : List UInt8} (hE : errQ l = false) (h : c = 34 ∨ c = 92) : cat (cat s (oneB (UInt8.ofNat 92))) (oneB (UInt8.ofNat c.toNat)) = cat s (tB (CF' c l)) := by
 unfold CF'
 rw [if_neg (by rw [hE]; decide), if_pos h, IE']
 exact Z4' s [92] [c]
theorem tC {s : ByteArray} {c : UInt8} {l : List UInt8} (hE : errQ l = false) (h34 : ((c.toNat : Int) == Int.ofNat 34) = false) (h92 : ((c.toNat : Int) == Int.ofNat 92) = false) (h : decide ((c.toNat : Int) < Int.ofNat 32) = true) : cat s (tB [92, 117, 48, 48, hd ((UInt8.ofNat c.toNat).toNat / 16), hd ((UInt8.ofNat c.toNat).toNat % 16)]) = cat s (tB (CF' c l)) := by
 have h := of_decide_eq_true h
 simp only [Z0] at h
 have hno : ¬ (c = 34 ∨ c = 92) := by
  rintro (e | e)
  ·rw [(c_eq (n := 34) (by decide)).2 e] at h34; cases h34
  ·rw [(c_eq (n := 92) (by decide)).2 e] at h92; cases h92
 unfold CF'
 rw [if_neg (by rw [hE]; decide), if_neg hno, if_pos (by omega), IE']
 rfl
theorem tD {s p : ByteArray} {c : UInt8} {l : List UInt8} (hE : errQ l = false) (h34 : ((c.toNat : Int) == Int.ofNat 34) = false) (h92 : ((c.toNat : Int) == Int.ofNat 92) = false) (h : decide ((c.toNat : Int) < Int.ofNat 32) = false) (hp : bts p = l.take (dN l)) : cat s p = cat s (tB (CF' c l)) := by
 have h := of_decide_eq_false h
 simp only [Z0] at h
 have hno : ¬ (c = 34 ∨ c = 92) := by
  rintro (e | e)
  ·rw [(c_eq (n := 34) (by decide)).2 e] at h34; cases h34
  ·rw [(c_eq (n := 92) (by decide)).2 e] at h92; cases h92
 unfold CF'
 rw [if_neg (by rw [hE]; decide), if_neg hno, if_neg (by omega), ← hp]
 congr 1
theorem D8' {a b : ByteArray} {σ : Nat → Nat} (h : a = b) : OW (AO.own (Md.text a) (exHP (bldR a) bldL)) ((bldO b).ren σ) := by subst h; exact Yc
theorem q_loop (hW : LWQ W) (s0 t0 : ByteArray) (R : ByteArray) (hR : qT s0 t0 = R) (hs : s0.size + (qL (bts t0)).length ≤ 999999000) : LTri Tryz.prog W (A2' fQ 3) (tms 0 59 (aQ t0)) (oQ s0) (.exit 0) (tms 0 59 [(2, .ptr 1 0)]) (oQ R) := by
 refine BW' (W := W) (g := fQ) (b := A2' fQ 3) (σ := {p : ByteArray × ByteArray // qT p.1 p.2 = R ∧ p.1.size + (qL (bts p.2)).length ≤ 999999000}) 59 (fun p => aQ p.1.2) (fun p => oQ p.1.1) (.exit 0) [(2, .ptr 1 0)] (oQ R) (fun p => p.1.2.size) [0, 1] [1, 2, 4] (by intro h; cases h) (fun _ => rfl) rfl ?_ ⟨(s0, t0), hR, hs⟩
 rintro ⟨⟨s, l⟩, hE, hsz⟩
 simp only at hE hsz ⊢
 by_cases h0 : 0 < l.size
 ·obtain ⟨c, hc⟩ : ∃ c, (bts l).getD 0 0 = c := ⟨_, rfl⟩
  have hby := HJ' hc
  have e1 : decide ((l.size : Int) > Int.ofNat 0) = true := decide_eq_true (by simp only [Z0]; omega)
  have hn1 := L8' (bts l)
  have hn2 : dN (bts l) ≤ l.size := UQ' (bts l) h0
  obtain ⟨r, hr⟩ : ∃ r, l.extract (dN (bts l)) l.size = r := ⟨_, rfl⟩
  obtain ⟨p, hp⟩ : ∃ p, l.extract 0 (dN (bts l)) = p := ⟨_, rfl⟩
  have hrb : bts r = (bts l).drop (dN (bts l)) := by rw [← hr]; exact Lib.extract_to_end _ _
  have hpb : bts p = (bts l).take (dN (bts l)) := by
   rw [← hp]
   show (l.extract 0 (dN (bts l))).data.toList = _
   rw [Lib.extract_data, List.drop_zero, Nat.sub_zero]
   rfl
  have hrs : r.size = l.size - dN (bts l) := by rw [← BJ', hrb, List.length_drop, BJ']
  have hps : p.size = dN (bts l) := by rw [← BJ', hpb, List.length_take, BJ']; omega
  have hcl := K4' c (bts l) h0
  have hcons : ∃ m, bts l = c :: m := by
   cases hb : bts l with
   | nil => have : l.size = 0 := congrArg List.length hb; omega
   | cons a m => rw [hb] at hc; exact ⟨m, by rw [← hc]; rfl⟩
  have hinv : qT (cat s (tB (CF' c (bts l)))) r = R := by
   rw [← hE]
   unfold qT
   rw [Z4', hrb]
   obtain ⟨m, hm⟩ := hcons
   rw [hm, JG']
  have hinv2 : (cat s (tB (CF' c (bts l)))).size + (qL (bts r)).length ≤ 999999000 := by
   rw [BT', AW', hrb]
   obtain ⟨m, hm⟩ := hcons
   rw [hm, JG', List.length_append] at hsz
   rw [hm]; omega
  have hn4 := Z1' (bts l)
  have hdec : r.size < l.size := by omega
  have fs : fitB s := by unfold fitB; omega
  have fs1 : fitB (cat s (oneB (UInt8.ofNat 92))) := by unfold fitB; rw [BT']; have : (oneB (UInt8.ofNat 92)).size = 1 := rfl; omega
  have fp : fitB p := by unfold fitB; omega
  have fp0 : 0 < p.size := by omega
  have hrw : Wk (AV.v (.string (l.extract (dN (bts l)) l.size))) (AV.v (.string r)) := Wk.of_eq (by rw [hr])
  have hpw : Wk (AV.v (.string (l.extract 0 (dN (bts l))))) (AV.v (.string p)) := Wk.of_eq (by rw [hp])
  have hx1 : fitB (ByteArray.mk (Array.mk [92, 117, 100, 99])) ∧ fitB (ByteArray.mk (Array.mk [92, 117, 48, 48])) := ⟨by unfold fitB; decide, by unfold fitB; decide⟩
  have hx2 : s.size + 4 ≤ 999999990 := by omega
  have h34 : 0 < 4 := by decide
  refine ⟨conQ, hQ c p r, [], fun F hF => AC' (PP' hW F hF) (AC' (V1' F hF) (AC' (LA' F hF) (AO' (LB' F hF)))), fun _ _ => noL, fun F => ?_⟩
  refine cast (congrArg (VAll _) (oQR_eq W s l p r c F).symm) ?_
  repeat' refine VAll.ite (fun hb => ?_) (fun hb => ?_)
  all_goals
   refine ⟨⟨?_, rfl, .inl ⟨rfl, ⟨(cat s (tB (CF' c (bts l))), r), hinv, hinv2⟩, hdec, [], rfl, rfl, ⟨Ya, Ya, Ya, Ye⟩, ⟨_, rfl, D8' (by first
    | exact tE (by assumption) (by assumption)
    | exact tQ (by first | exact QT' (by assumption) | exact QS' (by assumption)) (.inl ((c_eq (by decide)).1 (by assumption)))
    | exact tQ (by first | exact QT' (by assumption) | exact QS' (by assumption)) (.inr ((c_eq (by decide)).1 (by assumption)))
    | exact tC (by first | exact QT' (by assumption) | exact QS' (by assumption)) (by assumption) (by assumption) (by assumption)
    | exact tD (by first | exact QT' (by assumption) | exact QS' (by assumption)) (by assumption) (by assumption) (by assumption) hpb)⟩, ⟨_, rfl, Yc⟩, Ye⟩⟩⟩
   simp only [Cnd.holds, Nat.blt_eq, true_and, and_true]
   and_intros
   all_goals first
    | (with_reducible exact Ye)
    | (with_reducible exact rfl)
    | (with_reducible exact Ya)
    | (with_reducible exact Yb)
    | (with_reducible exact Yc)
    | (with_reducible exact h0)
    | (with_reducible exact hn2)
    | (with_reducible exact fs)
    | (with_reducible exact fs1)
    | (with_reducible exact fp)
    | (with_reducible exact fp0)
    | (with_reducible exact hx1.1)
    | (with_reducible exact hx1.2)
    | (with_reducible exact hx2)
    | (with_reducible exact hrw)
    | (with_reducible exact hpw)
    | (with_reducible exact hby)
    | (with_reducible exact Yd)
    | (with_reducible exact Nat.zero_le _)
    | (with_reducible exact Nat.succ_pos _)
    | (with_reducible exact A0' e1)
    | (with_reducible exact SF' _)
    | (rw [IE']; with_reducible exact Yb)
    | exact h34
    | exact A0' e1
    | exact hby
 ·have hl : bts l = [] := List.eq_nil_of_length_eq_zero (by rw [BJ']; omega)
  have hsR : s = R := by
   rw [← hE]; unfold qT; rw [hl, qL, UW']
  subst hsR
  have e1 : decide ((l.size : Int) > Int.ofNat 0) = false := decide_eq_false (by simp only [Z0]; omega)
  refine ⟨conQ, A9' [(fQ, 3, 2, hv (.lit false))], [], fun F hF => AC' (PP' hW F hF) (AC' (V1' F hF) (AC' (LA' F hF) (AO' (LB' F hF)))), fun _ _ => noL, fun F => ?_⟩
  refine Yj (oQE_eq W s l F) ⟨⟨?_, rfl, .inr ⟨rfl, [], rfl, rfl, ⟨Ya, Ye⟩, ⟨_, rfl, Yc⟩, ⟨_, rfl, Yc⟩, Ye⟩⟩⟩
  simp only [Cnd.holds, Nat.blt_eq, true_and, and_true]
  and_intros
  all_goals first
   | exact A0' e1 | (with_reducible first | exact Ye | exact Yf | exact A4' _ | assumption) | exact Yf | ((repeat (first | exact VW.nil | refine Yg ?_ | refine Yh ?_ | refine Yi ?_)); done)
end Go.Proofs.YtdphpillcaajpaaGreatDoor.Js
