/- Parts of the proof, merged. -/
import Derived.Test.YtpijbbobejeemaaGreatDoorEngXPrs
import Derived.Test.YtpijbbobejeemaaGreatDoorEngCon
import Derived.Test.YtpijbbobejeemaaGreatDoorEngRow
import Derived.Test.YtpijbbobejeemaaGreatDoorEngKit
import Derived.Lib.LaidTab
import Derived.Test.YtpijbbobejeemaaGreatDoorShelf
import Derived.Lib.AppendIntMem
import Derived.Test.YtpijbbobejeemaaGreatDoorEngClosedC
import Derived.Laws.Externs
import Derived.Test.YtpijbbobejeemaaGreatDoorEngSorted
import Derived.Lib.SplitLaws
import Derived.Test.YtpijbbobejeemaaGreatDoorProg
import Derived.KernelRfl
import Derived.WalkKit
import Derived.Lib.Strings
import Derived.Lib.Slices
import Derived.Lib.Walk
import Derived.Lib.Bytealg
import Derived.Laws.RangeAny
import Derived.Laws.Runes
set_option linter.unusedVariables false
set_option linter.unusedSimpArgs false
set_option maxRecDepth 100000
set_option linter.unusedSectionVars false
namespace Go.Proofs.YtpijbbobejeemaaGreatDoor.Eng
open Go Go.RowKit
def CTri (P : Program) (W : World) (cd : Code) (A : List AV) (H : LH) {ρ : Type} (ax : ρ → AX) (A' : ρ → List AV) (H' : ρ → LH) : Prop :=
 ∀ (W0 : World) (F : HP) (N : AC') (w : World) (a : Act) (Q : Exit → Act → World → Prop), AE' W F → NB N H → Rep W0 N F (BF' H) w → VRs N A a.tmps.toList →
  (∀ r a' w', St W0 F N (H' r) (A' r) a'.tmps.toList w' → a'.defers = a.defers → Q (HK' (ax r)) a' w') → cd.wp P Q a w
section
variable {P : Program} {W : World} {ρ σ : Type}
theorem CTri.pre {cd : Code} {A A1 : List AV} {H H1 : LH} {ax : ρ → AX} {A' : ρ → List AV} {H' : ρ → LH} (h : CTri P W cd A1 H1 ax A' H') (hg : Goes A H A1 H1) : CTri P W cd A H ax A' H' := by
 intro W0 F N w a Q hF hN r ha hK
 obtain ⟨N1, g1, g2, g3, g4⟩ := hg W0 F N _ _ ⟨N, fun _ _ => rfl, hN, r, ha⟩
 exact h W0 F N1 w a Q hF g2 g3 g4 fun q a' w' ⟨N2, k1, k2, k3, k4⟩ hd => hK q a' w' ⟨N2, fun i hi => (k1 i hi).trans (g1 i hi), k2, k3, k4⟩ hd
theorem CTri.post {cd : Code} {A : List AV} {H : LH} {ax : ρ → AX} {A' : ρ → List AV} {H' : ρ → LH} {ρ2 : Type} {ax2 : ρ2 → AX} {A2 : ρ2 → List AV} {H2 : ρ2 → LH} (h : CTri P W cd A H ax A' H') (hg : ∀ r, ∃ r2, ax2 r2 = ax r ∧ Goes (A' r) (H' r) (A2 r2) (H2 r2)) : CTri P W cd A H ax2 A2 H2 := by
 intro W0 F N w a Q hF hN r ha hK
 refine h W0 F N w a Q hF hN r ha fun q a' w' hs hd => ?_
 obtain ⟨r2, e, hg⟩ := hg q
 rw [← e]
 exact hK r2 a' w' (hg _ _ _ _ _ hs) hd
theorem CTri.seq {c1 c2 : Code} {A : List AV} {H : LH} {A1 : σ → List AV} {H1 : σ → LH} {ax : ρ → AX} {A' : ρ → List AV} {H' : ρ → LH} (h1 : CTri P W c1 A H (fun _ : σ => .normal) A1 H1) (h2 : ∀ s, CTri P W c2 (A1 s) (H1 s) ax A' H') : CTri P W (.seq c1 c2) A H ax A' H' := by
 intro W0 F N w a Q hF hN r ha hK
 refine wp_seq (h1 W0 F N w a _ hF hN r ha fun s a' w' hs hd => ?_)
 obtain ⟨N1, g1, g2, g3, g4⟩ := hs
 exact h2 s W0 F N1 w' a' Q hF g2 g3 g4 fun q a2 w2 ⟨N2, k1, k2, k3, k4⟩ hd2 => hK q a2 w2 ⟨N2, fun i hi => (k1 i hi).trans (g1 i hi), k2, k3, k4⟩ (hd2.trans hd)
theorem CTri.block {c : Code} {id : Nat} {A : List AV} {H : LH} {A' : ρ → List AV} {H' : ρ → LH} (h : CTri P W c A H (fun _ : ρ => .exit id) A' H') : CTri P W (.block id c) A H (fun _ : ρ => .normal) A' H' := by
 intro W0 F N w a Q hF hN r ha hK
 refine wp_block (h W0 F N w a _ hF hN r ha fun q a' w' hs hd => ?_)
 show (if id = id then Q .normal a' w' else _)
 rw [if_pos rfl]
 exact hK q a' w' hs hd
theorem Tri.body {f : FuncId} {fn : Func} {cd : Code} {t m : Nat} {A A0 : List AV} {H H' : LH} {v : AV} {ax : AX} (hfn : P.funcs[f]? = some fn) (hcd : fn.body = some cd) (hres : fn.results = #[.tmp t]) (hm : fn.ntmps = m) (hA0 : A ++ List.replicate (m - A.length) AV.undef = A0) (hax : ax = .ret ∨ ax = .normal) (ht : t < m)
  (h : CTri P W cd A0 H (fun _ : Unit => ax) (fun _ => tms 0 m [(t, v)]) (fun _ => H')) : Tri P W f A H v H' := by
 intro W0 F N w vargs hF hN r ha
 have hlen : A.length = vargs.size := by rw [ha.len]; simp
 refine calls_of_wp hfn hcd ?_
 refine h W0 F N w _ _ hF hN r ?_ fun _ a' w' hs hd => ?_
 ·subst hA0
  rw [Array.toList_append, Array.toList_replicate, hm, hlen]
  refine ha.append ?_
  generalize m - vargs.size = k
  induction k with
  | zero => exact B2'
  | succ k ih => exact AI'.2 ⟨I5', ih⟩
 ·obtain ⟨N1, g1, g2, g3, g4⟩ := hs
  have hv : ∀ (k j : Nat) (l : List Value), k ≤ t → t < k + j → VRs N1 (tms k j [(t, v)]) l → ∃ y, l[t - k]? = some y ∧ VR N1 v y := by
   intro k j
   induction j generalizing k with
   | zero => intro l h1 h2; omega
   | succ j ih =>
    intro l h1 h2 hl
    rw [tms] at hl
    simp only [VRs] at hl
    obtain ⟨y, l', q1, q2, rfl⟩ := hl
    by_cases e : k = t
    ·subst e
     refine ⟨y, by simp, ?_⟩
     simpa using q1
    ·obtain ⟨z, z1, z2⟩ := ih (k + 1) l' (by omega) (by omega) q2
     exact ⟨z, by rw [show t - k = (t - (k + 1)) + 1 from by omega, List.getElem?_cons_succ]; exact z1, z2⟩
  obtain ⟨y, hy, hvy⟩ := hv 0 m _ (Nat.zero_le _) (by omega) g4
  have hr : (results fn a'.tmps).run P w' = .ok y w' := by
   unfold results
   rw [hres]
   have : a'.tmps.getD t Go.undef = y := by
    rw [Nat.sub_zero, Array.getElem?_toList] at hy
    simp [Array.getD_eq_getD_getElem?, hy]
   rw [Array.getD_eq_getD_getElem?] at this
   simp [this]
  have hpost : a'.defers = [] ∧ ∃ y, (results fn a'.tmps).run P w' = .ok y w' ∧ ∃ z, Ending.returned y = .returned z ∧ St W0 F N H' [v] [z] w' := ⟨hd, y, hr, y, rfl, N1, g1, g2, g3, AI'.2 ⟨hvy, B2'⟩⟩
  rcases hax with rfl | rfl
  ·exact hpost
  ·exact hpost
theorem CTri.run {con : ConT} {claim : B4'} {lcon : NW'} {g : FuncId} {cd : Code} {A : List AV} {H : LH} {ax : ρ → AX} {A' : ρ → List AV} {H' : ρ → LH} (ks : List Nat) (fuel : Nat) (hm : P.follows .mixedOrders = true) (hH : AT' 1100 H = true)
  (hcon : ∀ F, AE' W F → JG' P (envO P F con claim lcon W)) (hl : ∀ F, AE' W F → ET' P (envO P F con claim lcon W))
  (hrun : ∀ F, AE' W F → (((DV' P (envO P F con claim lcon W) fuel g cd A).run2 (BF' H) 1100 []).view ks).all fun u os _ => aF' ks u.2 os fun W0 F N ys w => ∃ q, ax q = u.1 ∧ St W0 F N (H' q) (A' q) ys w) : CTri P W cd A H ax A' H' := by
 intro W0 F N w a Q hF hN r ha hK
 obtain ⟨⟨x, t⟩, h', n', lg', c, he, hc, hq⟩ := VT.all_pick (hrun F hF)
 rw [ID'] at he
 refine (CR' hF.env hm (hcon F hF) (hl F hF) fuel).1 _ _ _ _ _ _ _ _ _ _ _ _ _ _ _ _ _ _ he hc r ha (fun i h1 h2 => hN.nothing hH h1) fun N2 a2 w2 r2 t2 d2 x2 => ?_
 have hlim := I9' _ he (by decide)
 obtain ⟨q, e, hs⟩ := hq.state r2 x2 hlim (fun i hi => hN.nothing hH hi) t2
 simp only at e
 rw [← e]
 exact hK q a2 w2 hs d2
theorem CTri.loop {con : σ → ConT} {claim : σ → B4'} {lcon : σ → NW'} {g : FuncId} {b : Code} (A : σ → List AV) (H : σ → LH) (ax : ρ → AX) (A' : ρ → List AV) (H' : ρ → LH) (hax : ∀ q, ax q ≠ .normal) (μ : σ → Nat) (ks : List Nat) (fuel : Nat) (hm : P.follows .mixedOrders = true)
  (hH : ∀ s, AT' 1100 (H s) = true)
  (hcon : ∀ s F, AE' W F → JG' P (envO P F (con s) (claim s) (lcon s) W)) (hl : ∀ s F, AE' W F → ET' P (envO P F (con s) (claim s) (lcon s) W))
  (hstep : ∀ s F, AE' W F → (((DV' P (envO P F (con s) (claim s) (lcon s) W) fuel g b (A s)).run2 (BF' (H s)) 1100 []).view ks).all fun r os _ =>
   aF' ks r.2 os fun W0 F N ys w => (r.1 = .normal ∧ ∃ s', μ s' < μ s ∧ St W0 F N (H s') (A s') ys w) ∨ ∃ q, ax q = r.1 ∧ St W0 F N (H' q) (A' q) ys w) (s : σ) :
  CTri P W (.loop b) (A s) (H s) ax A' H' := by
 intro W0 F N w a Q hF hN r ha hK
 refine wp_loop_rounds (μ s + 1) ?_
 have key : ∀ (m : Nat) (s : σ), μ s < m → ∀ (N1 : AC') (w : World) (a1 : Act), (∀ i, i < 1000 → N1 i = N i) → NB N1 (H s) → Rep W0 N1 F (BF' (H s)) w → VRs N1 (A s) a1.tmps.toList → a1.defers = a.defers →
   Code.rounds P b Q m a1 w := by
  intro m
  induction m with
  | zero => intro s hs; omega
  | succ m ih =>
   intro s hs N1 w a1 hN1 hNB r ha hd
   rw [rounds_succ]
   obtain ⟨⟨x, t⟩, h', n', lg', c, he, hc, hq⟩ := VT.all_pick (hstep s F hF)
   rw [ID'] at he
   refine (CR' hF.env hm (hcon s F hF) (hl s F hF) fuel).1 _ _ _ _ _ _ _ _ _ _ _ _ _ _ _ _ _ _ he hc r ha (fun i h1 h2 => hNB.nothing (hH s) h1) fun N2 a2 w2 r2 t2 d2 x2 => ?_
   have hlim := I9' _ he (by decide)
   have hN0 : ∀ i, 1100 ≤ i → N1 i = none := fun i hi => hNB.nothing (hH s) hi
   rcases hq.state r2 x2 hlim hN0 t2 with ⟨e, s', hμ, N3, q1, q2, q3, q4⟩ | ⟨q, e, N3, q1, q2, q3, q4⟩
   ·simp only at e
    subst e
    show Code.rounds P b Q m a2 w2
    exact ih s' (by omega) N3 w2 a2 (fun i hi => (q1 i hi).trans (hN1 i hi)) q2 q3 q4 (d2.trans hd)
   ·have hfin := hK q a2 w2 ⟨N3, fun i hi => (q1 i hi).trans (hN1 i hi), q2, q3, q4⟩ (d2.trans hd)
    have hx : x ≠ .normal := fun h => hax q (e.trans h)
    rw [e] at hfin
    cases x with
    | normal => exact absurd rfl hx
    | exit id => exact hfin
    | ret => exact hfin
 exact key _ s (by omega) N w a (fun _ _ => rfl) hN r ha rfl
end
end Go.Proofs.YtpijbbobejeemaaGreatDoor.Eng
namespace Go.Proofs.YtpijbbobejeemaaGreatDoor.Kit
open Go Go.RowKit Eng
section
variable {W : World} {g : FuncId} {ρ σ : Type}
end
def fst : Code → Code
 | .seq a _ => a
 | c => c
def snd : Code → Code
 | .seq _ b => b
 | c => c
end Go.Proofs.YtpijbbobejeemaaGreatDoor.Kit
namespace Go.Proofs.YtpijbbobejeemaaGreatDoor.Eng
open Go Go.RowKit
section
variable {α : Type} {enc : α → List Value} {k : Nat}
theorem JZ' (hk : ∀ x, (enc x).length = k) (L : List α) (d0 : α) (i : Nat) (hi : i < L.length) (j : Nat) (hj : j < k) (v : Value) (hv : (enc (L.getD i d0))[j]? = some v) (d : AV) : (rowV enc L).getD (0 + i * k + j) d = .v v := by
 have h := O5' hk L d0 i hi
 have h2 : (((rowV enc L).drop (i * k)).take k)[j]? = some (.v v) := by
  rw [h, vmap, List.getElem?_map, hv]; rfl
 rw [List.getElem?_take_of_lt hj, List.getElem?_drop] at h2
 rw [Nat.zero_add, List.getD, h2]; rfl
end
theorem N3' {α : Type} {L : List α} {d : α} {i : Nat} (h : i < L.length) : L.getD i d ∈ L := by
 rw [List.getD, List.getElem?_eq_getElem h]; exact List.getElem_mem h
end Go.Proofs.YtpijbbobejeemaaGreatDoor.Eng
namespace Go.Proofs.YtpijbbobejeemaaGreatDoor.Kit
open Go Go.RowKit Eng
def encS (s : ByteArray) : List Value := [.string s]
def nil0 : ByteArray := ByteArray.empty
abbrev tStr : TypeId := 2 * 9
def rS (l : List ByteArray) : AO := .cells (rowV encS l) tStr
theorem SE' (x : ByteArray) : (encS x).length = 1 := rfl
theorem C5' (M : List ByteArray) : (rowV encS M).length = M.length := by rw [DX' (k := 1) SE', Nat.mul_one]
theorem rS_ren (σ : Nat → Nat) (L : List ByteArray) : (rS L).ren σ = rS L := by simp only [rS, AO.ren, A2']
theorem IY' {x : List AV} {L : List ByteArray} {e : TypeId} {σ : Nat → Nat} (h : x = rowV encS L) (he : e = tStr) : OW (.cells x e) ((rS L).ren σ) := by rw [rS_ren]; subst h he; exact o0
theorem DB' (K : Nat → Bool) (L : List ByteArray) : (rS L).cl K := K3' _ _
theorem aO' (M : List ByteArray) (i : Nat) (hi : i < M.length) (d : AV) : (rowV encS M).getD (0 + i * 1) d = sv (M.getD i nil0) := by
 have := JZ' (k := 1) SE' M nil0 i hi 0 (by decide) (.string (M.getD i nil0)) rfl d
 simpa [sv] using this
theorem rS_lt (M : List ByteArray) (i : Nat) (hi : i < M.length) : (0 + i * 1).blt (rowV encS M).length = true := by
 rw [C5', Nat.blt_eq]; omega
def byv (b : UInt8) : AV := .v (.int .u8 b.toNat)
def encB (b : UInt8) : List Value := [.int .u8 b.toNat]
abbrev tByt : TypeId := 2 * 5
def rB (l : List UInt8) : AO := .cells (rowV encB l) tByt
def rB1 (l : List UInt8) : AO := .cells (rowV encB l) (tByt + 1)
def sB (i n : Nat) : AV := .slice i 0 n 1 (.lo n)
theorem K2' (x : UInt8) : (encB x).length = 1 := rfl
theorem BR' (M : List UInt8) : (rowV encB M).length = M.length := by rw [DX' (k := 1) K2', Nat.mul_one]
theorem rB_ren (σ : Nat → Nat) (L : List UInt8) : (rB L).ren σ = rB L := by simp only [rB, AO.ren, A2']
theorem Q7' (σ : Nat → Nat) (L : List UInt8) : (rB1 L).ren σ = rB1 L := by simp only [rB1, AO.ren, A2']
theorem BW' {x : List AV} {L : List UInt8} {e : TypeId} {σ : Nat → Nat} (h : x = rowV encB L) (he : e = tByt) : OW (.cells x e) ((rB L).ren σ) := by rw [rB_ren]; subst h he; exact o0
theorem AJ' {x : List AV} {L : List UInt8} {e : TypeId} {σ : Nat → Nat} (h : x = rowV encB L) (he : e = tByt + 1) : OW (.cells x e) ((rB1 L).ren σ) := by rw [Q7']; subst h he; exact o0
theorem CE' (K : Nat → Bool) (L : List UInt8) : (rB L).cl K := K3' _ _
theorem AM' (K : Nat → Bool) (L : List UInt8) : (rB1 L).cl K := K3' _ _
theorem aQ' (M : List UInt8) (i : Nat) (hi : i < M.length) (d : AV) : (rowV encB M).getD (0 + i * 1) d = byv (M.getD i 0) := by
 have := JZ' (k := 1) K2' M 0 i hi 0 (by decide) (.int .u8 (M.getD i 0).toNat) rfl d
 simpa [byv] using this
theorem LE' (M : List UInt8) (i : Nat) (hi : i < M.length) : (0 + i * 1).blt (rowV encB M).length = true := by
 rw [BR', Nat.blt_eq]; omega
theorem B1' (l : List UInt8) : rowV encB l = vmap (l.map fun b => .int .u8 b.toNat) := by
 unfold rowV
 congr 1
 induction l with
 | nil => rfl
 | cons a l ih => rw [List.flatMap_cons, List.map_cons, ih]; rfl
theorem bR' {p : Nat} {P : List UInt8} (h : P.length = p) : (0 + p * 1).ble (rowV encB P).length = true := by rw [BR', Nat.ble_eq]; omega
theorem Q5' {p : Nat} {P : List UInt8} (h : P.length = p) : (List.take (p * 1) (List.drop 0 (rowV encB P))).length.beq (p * 1) = true := by
 have : (List.take (p * 1) (List.drop 0 (rowV encB P))).length = p * 1 := by rw [List.length_take, List.drop_zero, BR']; omega
 rw [this]; exact Nat.beq_refl _
theorem Q6' {p : Nat} {P : List UInt8} (h : P.length = p) (l : List UInt8) : List.take (p * 1) (List.drop 0 (rowV encB P)) ++ rowV encB l = rowV encB (P ++ l) := by
 rw [List.drop_zero, List.take_of_length_le (by rw [BR']; omega), ← CK']
theorem aN' {p : Nat} {P : List ByteArray} (h : P.length = p) : (0 + p * 1).ble (rowV encS P).length = true := by rw [C5', Nat.ble_eq]; omega
theorem U6' {p : Nat} {P : List ByteArray} (h : P.length = p) : (List.take (p * 1) (List.drop 0 (rowV encS P))).length.beq (p * 1) = true := by
 have : (List.take (p * 1) (List.drop 0 (rowV encS P))).length = p * 1 := by rw [List.length_take, List.drop_zero, C5']; omega
 rw [this]; exact Nat.beq_refl _
theorem U7' {p : Nat} {P : List ByteArray} (h : P.length = p) (l : List ByteArray) : List.take (p * 1) (List.drop 0 (rowV encS P)) ++ rowV encS l = rowV encS (P ++ l) := by
 rw [List.drop_zero, List.take_of_length_le (by rw [C5']; omega), ← CK']
theorem ltTN {j n : Nat} (h : j < n) : decide (Int.ofNat j < Int.ofNat n) = true := decide_eq_true (by simp only [Z0]; omega)
theorem ltFN {j n : Nat} (h : n ≤ j) : decide (Int.ofNat j < Int.ofNat n) = false := decide_eq_false (by simp only [Z0]; omega)
theorem C6' {a b : Nat} (h : a ≤ b) : a.ble b = true := by rw [Nat.ble_eq]; exact h
theorem D3' {F : HP} {f : FuncId} {r : Nat} {b : Code} {g : List AV → AP (AX × List AV)} {l : LcL} (h : L1OK Tryz.prog F b g) (hl : ∀ x ∈ l, L1OK Tryz.prog F x.2.2.1 x.2.2.2) : ∀ x ∈ (f, r, b, g) :: l, L1OK Tryz.prog F x.2.2.1 x.2.2.2 := fun x hx => by
 rcases List.mem_cons.1 hx with rfl | hx
 ·exact h
 ·exact hl x hx
theorem VAll.ite {α : Type} {Q : α → List (Option AO) → Nat → Prop} {b : Bool} {x y : VT α} (h1 : b = true → VAll Q x) (h2 : b = false → VAll Q y) : VAll Q (.ite b x y) := ⟨⟨fun h => (h1 h).out, fun h => (h2 h).out⟩⟩
theorem ba_ext {a b : ByteArray} (h : a.data.toList = b.data.toList) : a = b := ByteArray.ext (Array.toList_inj.1 h)
theorem PC' (s : ByteArray) : s.toList = s.data.toList := ByteArray.toList_eq s
theorem LJ' (a b : ByteArray) : (a.toList == b.toList) = decide (a = b) := by
 rw [PC', PC']
 by_cases h : a = b
 ·subst h; simp
 ·rw [decide_eq_false h, beq_eq_false_iff_ne]
  exact fun e => h (ba_ext e)
theorem J5' (s : ByteArray) : s.data.toList.length = s.size := rfl
theorem ER' (s : ByteArray) (i j : Nat) (hj : j ≤ s.size) : (s.extract i j).data.toList = (s.data.toList.drop i).take (j - i) := by
 rw [ByteArray.data_extract, Array.toList_extract, List.extract_eq_take_drop]
noncomputable section
def IS' (W w : World) : Prop := ∀ (b : Nat) (o : Obj), W.heap[b]? = some o → w.heap[b]? = some o
theorem IS'.cell {W w : World} (h : IS' W w) {a : Addr} {v : Value} (hv : W.cell? a = some v) : w.cell? a = some v := IN' h a v hv
theorem IS'.tab {W w : World} (h : IS' W w) {P : Program} {n : String} {k : IntKind} {zs : List Int} (ht : Lib.TabIs P W n k zs) : Lib.TabIs P w n k zs := by
 unfold Lib.TabIs World.var? at *
 cases hg : P.globalNamed n with
 | none => rw [hg] at ht; cases ht
 | some g =>
  rw [hg] at ht
  simp only [Option.bind_some] at ht ⊢
  cases hb : W.heap[g]? with
  | none => rw [hb] at ht; cases ht
  | some o => rw [hb] at ht; rw [h _ _ hb]; exact ht
def vC {π : Type} (get : List AV → Option π) (pre : π → Prop) (val : π → AV) : List AV → Option (AP AV) :=
 fun args => match get args with
 | some p => some (.need (pre p) (.ret (val p)))
 | none => some (.fail "arguments")
theorem K8' {W : World} {F : HP} (hF : AE' W F) {f : FuncId} {π : Type} {get : List AV → Option π} {pre : π → Prop} {val : π → AV} (args : π → List Value) (res : π → Value)
  (hg : ∀ A p, get A = some p → A = vmap (args p)) (hv : ∀ p N, VR N (val p) (res p))
  (h : ∀ p, pre p → ∀ w, IS' W w → Calls Tryz.prog f (args p).toArray w fun e w' => e = .returned (res p) ∧ Below w.heap.size w w') : C1OK Tryz.prog F f (vC get pre val) := by
 intro st W0 N h0 w A vargs v h' n n' lg lg' c q hp he hc r ha hf
 unfold vC at hp
 split at hp
 ·rename_i p hg1
  cases hp
  obtain ⟨c1, e1, rfl⟩ := AH' he
  obtain ⟨rfl, rfl, rfl⟩ := AD' e1
  obtain ⟨hpre, hc1⟩ := (Cnd.and_iff _ _).1 hc
  have hA := hg _ _ hg1
  subst hA
  have : vargs = (args p).toArray := by
   have := ha.of_vmap
   rw [← this]
  subst this
  obtain ⟨D0, D, h1, h2, h3⟩ := r.sat
  refine (h p hpre w (hF D0 w h1)).mono ?_
  rintro e w' ⟨rfl, hb⟩
  exact ⟨_, N, rfl, r.below hb, hv p N, fun _ _ => rfl⟩
 ·cases hp
  cases he
def g1s : List AV → Option ByteArray
 | [.v (.string s)] => some s
 | _ => none
def g2s : List AV → Option (ByteArray × ByteArray)
 | [.v (.string s), .v (.string t)] => some (s, t)
 | _ => none
theorem S7' (A : List AV) (p : ByteArray) (h : g1s A = some p) : A = vmap [.string p] := by
 unfold g1s at h
 split at h
 ·cases h; rfl
 ·cases h
theorem G3' (A : List AV) (p : ByteArray × ByteArray) (h : g2s A = some p) : A = vmap [.string p.1, .string p.2] := by
 unfold g2s at h
 split at h
 ·cases h; rfl
 ·cases h
theorem vr_v (N : AC') (x : Value) : VR N (.v x) x := VR_v.2 rfl
theorem RN' {W0 w : World} {N : AC'} {F : HP} {h : T} (r : Rep W0 N F h w) {i off len : Nat} {cap : Cp} {cs : List AV} {e : TypeId} {y : Value} (hi : h.find i = some (.cells cs e)) (hy : VR N (.slice i off len 1 cap) y) :
  ∃ b x c, y = .slice (some ⟨b, x, none⟩) len c ∧ len ≤ c ∧ b < w.heap.size ∧ ∀ (j : Nat) (a : AV), j < len → cs[off + j]? = some a → ∃ v, w.cell? ⟨b, x + j, none⟩ = some v ∧ VR N a v := by
 obtain ⟨D, hO⟩ := r.obj hi
 obtain ⟨l, arr, fz, h1, h2, h3, h4, h5, h6, h7, h8⟩ := hO
 simp only [VR] at hy
 obtain ⟨l', x, c, q1, q2, q3, q4, q5, q6⟩ := hy
 rw [h1] at q1
 cases q1
 refine ⟨l.blk, x, c, q2, q6, (Array.getElem?_eq_some_iff.1 h3).1, fun j a hj ha => ?_⟩
 rcases q3 with rfl | rfl
 ·obtain ⟨v, hv, hV⟩ := h7.get ha
  refine ⟨v, ?_, hV⟩
  have hlt : off + j < cs.length := (List.getElem?_eq_some_iff.1 ha).1
  rw [List.getElem?_take_of_lt hlt, List.getElem?_drop] at hv
  simp only [World.cell?, h3]
  rw [← Nat.add_assoc] at hv
  simpa using hv
 ·omega
def HC' (l : List AV) : List ByteArray := l.map AV.strOf
def MN' (pre : List ByteArray → ByteArray → Prop) (val : List ByteArray → ByteArray → AV) : List AV → Option (AP AV) := fun args => match args with
 | [.slice i off len sz _, .v (.string t)] => some (.read i fun o => match o with
  | .cells cs _ => .need (sz = 1 ∧ List.take len (List.drop off cs) = (HC' (List.take len (List.drop off cs))).map sv ∧ (HC' (List.take len (List.drop off cs))).length = len) (.need (pre (HC' (List.take len (List.drop off cs))) t) (.ret (val (HC' (List.take len (List.drop off cs))) t)))
  | _ => .fail "row")
 | _ => some (.fail "row")
theorem T0' {W : World} {F : HP} (hF : AE' W F) {f : FuncId} {pre : List ByteArray → ByteArray → Prop} {val : List ByteArray → ByteArray → AV} (res : List ByteArray → ByteArray → Value) (hv : ∀ xs t N, VR N (val xs t) (res xs t))
  (hc : ∀ xs t, pre xs t → ∀ w, IS' W w → ∀ bk o c, (∀ (j : Nat) x, xs[j]? = some x → w.cell? ⟨bk, o + j, none⟩ = some (.string x)) → bk < w.heap.size → xs.length ≤ c →
   Calls Tryz.prog f #[.slice (some ⟨bk, o, none⟩) xs.length c, .string t] w fun e w' => e = .returned (res xs t) ∧ Below w.heap.size w w') : C1OK Tryz.prog F f (MN' pre val) := by
 intro st W0 N h0 w A vargs v h' n n' lg lg' c q hp he hcc r ha hf
 unfold MN' at hp
 split at hp
 ·rename_i i off len sz cap t
  cases hp
  obtain ⟨o, ho, e1⟩ := AX' he
  cases o with
  | cells cs e =>
   simp only at e1
   obtain ⟨c1, e2, rfl⟩ := AH' e1
   obtain ⟨⟨rfl, hrow, hlen⟩, hc1⟩ := (Cnd.and_iff _ _).1 hcc
   obtain ⟨c2, e3, rfl⟩ := AH' e2
   obtain ⟨hpre, hc2⟩ := (Cnd.and_iff _ _).1 hc1
   obtain ⟨rfl, rfl, rfl⟩ := AD' e3
   generalize hxs : HC' (List.take len (List.drop off cs)) = xs at *
   obtain ⟨y1, r1, h1, ⟨y2, r2, h2, rfl, rfl⟩, hl⟩ := (by simpa only [VRs] using ha : ∃ y r, VR N (.slice i off len 1 cap) y ∧ (∃ y2 r2, VR N (.v (.string t)) y2 ∧ r2 = [] ∧ r = y2 :: r2) ∧ vargs.toList = y :: r)
   have h2 := VR_v.1 h2
   subst h2
   obtain ⟨b, x, cc, rfl, k2, k3, k4⟩ := RN' r ho h1
   have hva : vargs = #[.slice (some ⟨b, x, none⟩) xs.length cc, .string t] := by
    apply Array.ext'
    rw [hl, hlen]
   subst hva
   obtain ⟨D0, D, p1, p2, p3⟩ := r.sat
   refine (hc xs t hpre w (hF D0 w p1) b x cc (fun j z hz => ?_) k3 (by omega)).mono ?_
   ·have hj : j < len := by rw [← hlen]; exact (List.getElem?_eq_some_iff.1 hz).1
    have : (List.take len (List.drop off cs))[j]? = some (sv z) := by rw [hrow, List.getElem?_map, hz]; rfl
    rw [List.getElem?_take_of_lt hj, List.getElem?_drop] at this
    obtain ⟨v, hv1, hv2⟩ := k4 j _ hj this
    rw [hv1]
    exact congrArg some (VR_v.1 hv2)
   ·rintro e w' ⟨rfl, hb⟩
    exact ⟨_, N, rfl, r.below hb, hv xs t N, fun _ _ => rfl⟩
  | _ => cases e1
 ·cases hp
  cases he
def u8V (z : Int) : AV := .v (.int .u8 z)
theorem GM' {W0 w : World} {N : AC'} {F : HP} {h : T} (r : Rep W0 N F h w) {i off n : Nat} {cap : Cp} {cs : List AV} {e : TypeId} {y : Value} {xs : List Int} (hi : h.find i = some (.cells cs e)) (hy : VR N (.slice i off n 1 cap) y)
  (hx : List.take n (List.drop off cs) = xs.map u8V) (hn : xs.length = n) :
  ∃ b x c, y = .slice (some ⟨b, x, none⟩) n c ∧ n ≤ c ∧ b < w.heap.size ∧ ∀ j, j < n → w.cell? ((⟨b, x, none⟩ : Addr).add j) = some (.int .u8 (xs.getD j 0)) := by
 obtain ⟨b, x, c, rfl, k2, k3, k4⟩ := RN' r hi hy
 refine ⟨b, x, c, rfl, k2, k3, fun j hj => ?_⟩
 have h1 : (List.take n (List.drop off cs))[j]? = some (u8V (xs.getD j 0)) := by
  rw [hx, List.getElem?_map, List.getD_eq_getElem?_getD]
  cases hg : xs[j]? with
  | none => have := List.getElem?_eq_none_iff.1 hg; omega
  | some z => rfl
 rw [List.getElem?_take_of_lt hj, List.getElem?_drop] at h1
 obtain ⟨v, hv1, hv2⟩ := k4 j _ hj h1
 rw [D8', hv1]
 exact congrArg some (VR_v.1 hv2)
theorem GZ' : ∀ {l : List AV} {xs : List Int}, bytesOf l = some xs → l = xs.map u8V
 | [], xs, h => by simp only [bytesOf, Option.some.injEq] at h; subst h; rfl
 | a :: l, xs, h => by
  unfold bytesOf at h
  split at h
  ·rename_i heq; cases heq
  ·rename_i n r heq
   cases heq
   split at h
   ·rename_i t ht
    cases h
    rw [GZ' ht]
    rfl
   ·cases h
  ·cases h
theorem KS' {z : Int} (h : M6' z = true) : 0 ≤ z ∧ z < 256 := by
 unfold M6' at h
 split at h
 ·rename_i k
  rw [Nat.blt_eq] at h
  exact ⟨by simp, by simp only [Z0]; omega⟩
 ·cases h
def bP' (pre : List Int → List Int → Bool) (val : List Int → List Int → AV) : List AV → Option (AP AV) := fun args => match args with
 | [.slice i off n sz _, .slice j off2 k sz2 _] => some (.read i fun o => match o with
  | .cells cs _ => .read j fun o2 => match o2 with
   | .cells ds _ => (match bytesOf (List.take n (List.drop off cs)), bytesOf (List.take k (List.drop off2 ds)) with
    | some xs, some ys => (match Nat.beq sz 1 && (Nat.beq sz2 1 && (Nat.beq xs.length n && (Nat.beq ys.length k && (xs.all M6' && (ys.all M6' && pre xs ys))))) with
     | true => .ret (val xs ys)
     | false => .fail "bytes")
    | _, _ => .fail "bytes")
   | _ => .fail "bytes"
  | _ => .fail "bytes")
 | _ => some (.fail "bytes")
theorem XD' {W : World} {F : HP} (hF : AE' W F) {f : FuncId} {pre : List Int → List Int → Bool} {val : List Int → List Int → AV} (res : List Int → List Int → Value) (hv : ∀ xs ys N, VR N (val xs ys) (res xs ys))
  (hc : ∀ xs ys, pre xs ys = true → (∀ z ∈ xs, 0 ≤ z ∧ z < 256) → (∀ z ∈ ys, 0 ≤ z ∧ z < 256) → ∀ w, IS' W w → ∀ b x c b2 x2 c2, xs.length ≤ c → ys.length ≤ c2 →
   (∀ j, j < xs.length → w.cell? ((⟨b, x, none⟩ : Addr).add j) = some (.int .u8 (xs.getD j 0))) → (∀ j, j < ys.length → w.cell? ((⟨b2, x2, none⟩ : Addr).add j) = some (.int .u8 (ys.getD j 0))) →
   Calls Tryz.prog f #[.slice (some ⟨b, x, none⟩) xs.length c, .slice (some ⟨b2, x2, none⟩) ys.length c2] w fun e w' => e = .returned (res xs ys) ∧ Below w.heap.size w w') : C1OK Tryz.prog F f (bP' pre val) := by
 intro st W0 N h0 w A vargs v h' n n' lg lg' c q hp he hcc r ha hf
 unfold bP' at hp
 split at hp
 ·rename_i i off m sz cap j off2 k sz2 cap2
  cases hp
  obtain ⟨o, ho, e1⟩ := AX' he
  cases o with
  | cells cs e =>
   obtain ⟨o2, ho2, e2⟩ := AX' e1
   cases o2 with
   | cells ds e' =>
    simp only at e2
    split at e2
    ·rename_i xs ys hx hy
     split at e2
     ·rename_i hg
      obtain ⟨rfl, rfl, rfl⟩ := AD' e2
      simp only [Bool.and_eq_true] at hg
      obtain ⟨g1, g2, g3, g4, g5, g6, g7⟩ := hg
      have g1 := Nat.eq_of_beq_eq_true g1
      have g2 := Nat.eq_of_beq_eq_true g2
      have g3 := Nat.eq_of_beq_eq_true g3
      have g4 := Nat.eq_of_beq_eq_true g4
      subst g1 g2 g3 g4
      obtain ⟨y1, r1, h1, ⟨y2, r2, h2, rfl, rfl⟩, hl⟩ := (by simpa only [VRs] using ha : ∃ y r, VR N (.slice i off xs.length 1 cap) y ∧ (∃ y2 r2, VR N (.slice j off2 ys.length 1 cap2) y2 ∧ r2 = [] ∧ r = y2 :: r2) ∧ vargs.toList = y :: r)
      obtain ⟨b, x, cc, rfl, k2, k3, k4⟩ := GM' r ho h1 (GZ' hx) rfl
      obtain ⟨b2, x2, cc2, rfl, k5, k6, k7⟩ := GM' r ho2 h2 (GZ' hy) rfl
      have hva : vargs = #[.slice (some ⟨b, x, none⟩) xs.length cc, .slice (some ⟨b2, x2, none⟩) ys.length cc2] := by
       apply Array.ext'
       rw [hl]
      subst hva
      obtain ⟨D0, D, p1, p2, p3⟩ := r.sat
      refine (hc xs ys g7 (fun z hz => KS' (List.all_eq_true.1 g5 z hz)) (fun z hz => KS' (List.all_eq_true.1 g6 z hz)) w (hF D0 w p1) b x cc b2 x2 cc2 k2 k5 k4 k7).mono ?_
      rintro e w' ⟨rfl, hb⟩
      exact ⟨_, N, rfl, r.below hb, hv xs ys N, fun _ _ => rfl⟩
     ·cases e2
    ·cases e2
   | _ => cases e2
  | _ => cases e1
 ·cases hp
  cases he
def kC {π : Type} (get : List AV → Option π) (pre : π → Bool) (val : π → AV) : List AV → Option (AP AV) :=
 fun args => match get args with
 | some p => (match pre p with
  | true => some (.ret (val p))
  | false => some (.fail "arguments"))
 | none => some (.fail "arguments")
theorem gV' {F : HP} {f : FuncId} {π : Type} {get : List AV → Option π} {pre : π → Bool} {pre' : π → Prop} {val : π → AV} (h : C1OK Tryz.prog F f (vC get pre' val)) (hp : ∀ p, pre p = true → pre' p) : C1OK Tryz.prog F f (kC get pre val) := by
 intro st W0 N h0 w A vargs v h' n n' lg lg' c q hq he hc r ha hf
 unfold kC at hq
 split at hq
 ·rename_i p hg1
  split at hq
  ·rename_i hpre
   cases hq
   obtain ⟨rfl, rfl, rfl⟩ := AD' he
   have hv : vC get pre' val A = some (.need (pre' p) (.ret (val p))) := by unfold vC; rw [hg1]
   exact h st W0 N _ w A vargs _ _ _ _ lg lg ((Cnd.p (pre' p)).and .t) _ hv rfl ((Cnd.and_iff _ _).2 ⟨hp p hpre, t0⟩) r ha hf
  ·cases hq
   cases he
 ·cases hq
  cases he
def TV' : List AV → Option (List ByteArray)
 | [] => some []
 | .v (.string s) :: l => (match TV' l with
  | some r => some (s :: r)
  | none => none)
 | _ => none
def Q3' (pre : List ByteArray → ByteArray → Bool) (val : List ByteArray → ByteArray → AV) : List AV → Option (AP AV) := fun args => match args with
 | [.slice i off len sz _, .v (.string t)] => some (.read i fun o => match o with
  | .cells cs _ => (match TV' (List.take len (List.drop off cs)) with
   | some xs => (match Nat.beq sz 1 && (Nat.beq xs.length len && pre xs t) with
    | true => .ret (val xs t)
    | false => .fail "row")
   | none => .fail "row")
  | _ => .fail "row")
 | _ => some (.fail "row")
theorem LY' : ∀ {l : List AV} {xs : List ByteArray}, TV' l = some xs → l = xs.map sv ∧ xs = HC' l
 | [], xs, h => by simp only [TV', Option.some.injEq] at h; subst h; exact ⟨rfl, rfl⟩
 | a :: l, xs, h => by
  unfold TV' at h
  split at h
  ·rename_i heq; cases heq
  ·rename_i s r heq
   cases heq
   split at h
   ·rename_i t ht
    cases h
    obtain ⟨q1, q2⟩ := LY' ht
    refine ⟨by rw [List.map_cons, ← q1]; rfl, ?_⟩
    rw [HC', List.map_cons]
    exact congrArg (_ :: ·) q2
   ·cases h
  ·cases h
theorem SZ' {F : HP} {f : FuncId} {pre : List ByteArray → ByteArray → Bool} {pre' : List ByteArray → ByteArray → Prop} {val : List ByteArray → ByteArray → AV} (h : C1OK Tryz.prog F f (MN' pre' val)) (hp : ∀ xs t, pre xs t = true → pre' xs t) : C1OK Tryz.prog F f (Q3' pre val) := by
 intro st W0 N h0 w A vargs v h' n n' lg lg' c q hq he hc r ha hf
 unfold Q3' at hq
 split at hq
 ·rename_i i off len sz cap t
  cases hq
  obtain ⟨o, ho, e1⟩ := AX' he
  cases o with
  | cells cs e =>
   simp only at e1
   split at e1
   ·rename_i xs hx
    split at e1
    ·rename_i hg
     obtain ⟨rfl, rfl, rfl⟩ := AD' e1
     simp only [Bool.and_eq_true] at hg
     obtain ⟨q1, q2⟩ := LY' hx
     have g1 := Nat.eq_of_beq_eq_true hg.1
     have g2 := Nat.eq_of_beq_eq_true hg.2.1
     subst g1
     refine h st W0 N _ w [.slice i off len 1 cap, .v (.string t)] vargs (val xs t) _ _ _ lg ((i, false) :: lg) ((Cnd.p (1 = 1 ∧ List.take len (List.drop off cs) = (HC' (List.take len (List.drop off cs))).map sv ∧ (HC' (List.take len (List.drop off cs))).length = len)).and ((Cnd.p (pre' (HC' (List.take len (List.drop off cs))) t)).and .t)) _ rfl ?_ ?_ r ha hf
     ·simp only [AP.run, ho]
      rw [q2]
      rfl
     ·rw [← q2]
      exact (Cnd.and_iff _ _).2 ⟨⟨rfl, q1, g2⟩, (Cnd.and_iff _ _).2 ⟨hp _ _ hg.2.2, t0⟩⟩
    ·cases e1
   ·cases e1
  | _ => cases e1
 ·cases hq
  cases he
end
end Go.Proofs.YtpijbbobejeemaaGreatDoor.Kit
namespace Go.Proofs.YtpijbbobejeemaaGreatDoor.Htp
open Go Go.RowKit Eng Kit
noncomputable section
theorem ND' {B : Nat} {a w : World} (h : Below B a w) (q : Nat) : Below B a (w.drewN q) := ⟨h.os, h.tape, h.output, h.size, h.block⟩
structure LW (W : World) : Prop where
 maxLen : ∃ m, W.cell? ⟨0, 0, none⟩ = some (.int .i64 m)
 pows : Lib.TabIs Tryz.prog W "internal/strconv.uint64pow10" .u64 Lib.pow10Tab
def tB (l : List UInt8) : ByteArray := ⟨l.toArray⟩
theorem BL' (l : List UInt8) : (tB l).data.toList = l := by simp [tB]
theorem BC' (l : List UInt8) : (tB l).size = l.length := by simp [tB, ByteArray.size]
theorem W6' {a b : ByteArray} (h : a.data.toList = b.data.toList) : a = b := by
 cases a; cases b; congr 1; exact Array.ext' h
theorem HT' (s : ByteArray) : tB s.data.toList = s := W6' (BL' _)
def gW' (xs : List ByteArray) (sep : ByteArray) : ByteArray := tB (Lib.join (xs.map (·.data.toList)) sep.data.toList)
def cut1 (s t : ByteArray) : ByteArray := tB (Lib.cut s.data.toList t.data.toList).1
def cut2 (s t : ByteArray) : ByteArray := tB (Lib.cut s.data.toList t.data.toList).2.1
def cutK (s t : ByteArray) : Bool := (Lib.cut s.data.toList t.data.toList).2.2
def IO' (s : ByteArray) : Prop := ∀ (j : Nat) b, s.data.toList[j]? = some b → b.toNat < 128
abbrev h6' : Nat := 40
abbrev fCut : Nat := 45
variable {W : World} {F : HP}
def cJoin : List AV → Option (AP AV) := MN' (fun xs t => xs.length ≤ 140737488355328 ∧ (Lib.join (xs.map (·.data.toList)) t.data.toList).length ≤ 140737488355328) (fun xs t => sv (gW' xs t))
theorem ZQ' (hF : AE' W F) : C1OK Tryz.prog F h6' cJoin :=
 T0' hF (fun xs t => .string (gW' xs t)) (fun xs t N => vr_v N _) fun xs t h w hw bk o c h1 h2 h3 => Tryz.strings_Join bk o c xs t w h1 h2 h.1 h3 h.2
theorem vr_t2 (N : AC') (a b : Value) : VR N (.tuple [.v a, .v b]) (.tuple #[a, b]) := by
 simp only [VR, VRs]
 exact ⟨[a, b], ⟨a, [b], rfl, ⟨b, [], rfl, rfl, rfl⟩, rfl⟩, rfl⟩
theorem vr_t3 (N : AC') (a b c : Value) : VR N (.tuple [.v a, .v b, .v c]) (.tuple #[a, b, c]) := by
 simp only [VR, VRs]
 exact ⟨[a, b, c], ⟨a, [b, c], rfl, ⟨b, [c], rfl, ⟨c, [], rfl, rfl, rfl⟩, rfl⟩, rfl⟩, rfl⟩
def cCut : List AV → Option (AP AV) := vC g2s (fun p => p.1.size < 4294967281) (fun p => .tuple [sv (cut1 p.1 p.2), sv (cut2 p.1 p.2), bv (cutK p.1 p.2)])
theorem D7' (hW : LW W) (hF : AE' W F) : C1OK Tryz.prog F fCut cCut :=
 K8' hF (fun p => [.string p.1, .string p.2]) (fun p => .tuple #[.string (cut1 p.1 p.2), .string (cut2 p.1 p.2), .bool (cutK p.1 p.2)]) G3' (fun p N => vr_t3 N _ _ _) fun p hp w hw => by
  obtain ⟨m, hm⟩ := hW.maxLen
  exact (Tryz.strings_Cut p.1 p.2 m w hp (hw.cell hm)).mono fun e w' ⟨h1, k, h2⟩ => ⟨h1, by rw [h2]; exact ND' (Below.refl _ _) k⟩
end
noncomputable section
abbrev fB64 : Nat := 44
abbrev fEnc : Nat := 21
def nilB : AV := .v (.slice none 0 0)
def hB (core : ByteArray) (bits : Nat) : B4' := AB' [(fB64, 1, 3, hv (.lit false)), (fB64, 3, 1, hv (sv core)), (fB64, 4, 5, hv (.lit false)), (fB64, 7, 1, ho 1100 (rB1 core.data.toList)), (fB64, 18, 3, hv (iv (Int.ofNat (2 ^ bits)))), (fB64, 18, 4, hv (iv (Int.ofNat (2 ^ bits - 1)))), (fB64, 18, 5, hv (iv 0)), (fB64, 18, 6, hv (.lit true)), (fB64, 18, 9, hv (.lit true))]
end
def alpha : List UInt8 := [65,66,67,68,69,70,71,72,73,74,75,76,77,78,79,80,81,82,83,84,85,86,87,88,89,90,97,98,99,100,101,102,103,104,105,106,107,108,109,110,111,112,113,114,115,116,117,118,119,120,121,122,48,49,50,51,52,53,54,55,56,57,43,47]
def letter (k : Nat) : UInt8 := alpha.getD k 0
def n3 (a b c : UInt8) : Nat := a.toNat * 65536 + b.toNat * 256 + c.toNat
noncomputable section
def hE (i : Nat) (a b c : UInt8) (n1 n2 n12 n u v x y z w : Nat) (two three : Bool) : B4' := AB' [(fEnc, 4, 3, hv (.lit true)), (fEnc, 6, 3, hv (byv a)), (fEnc, 6, 4, hv (iv (Int.ofNat a.toNat))), (fEnc, 6, 5, hv (iv (Int.ofNat n1))),
 (fEnc, 7, 1, hv (iv (Int.ofNat (i + 1)))), (fEnc, 7, 4, hv (.lit two)), (fEnc, 8, 3, hv (iv (Int.ofNat (i + 1)))), (fEnc, 8, 5, hv (byv b)), (fEnc, 8, 6, hv (iv (Int.ofNat b.toNat))), (fEnc, 8, 7, hv (iv (Int.ofNat n2))), (fEnc, 8, 8, hv (iv (Int.ofNat n12))),
 (fEnc, 9, 1, hv (iv (Int.ofNat (i + 2)))), (fEnc, 9, 4, hv (.lit three)), (fEnc, 10, 3, hv (iv (Int.ofNat (i + 2)))), (fEnc, 10, 5, hv (byv c)), (fEnc, 10, 6, hv (iv (Int.ofNat c.toNat))), (fEnc, 10, 7, hv (iv (Int.ofNat n))),
 (fEnc, 11, 3, hv (iv (Int.ofNat x))), (fEnc, 11, 4, h0v (byv (letter x))), (fEnc, 11, 7, hv (iv (Int.ofNat u))), (fEnc, 11, 8, hv (iv (Int.ofNat y))), (fEnc, 11, 9, h0v (byv (letter y))),
 (fEnc, 12, 1, hv (iv (Int.ofNat (i + 1)))), (fEnc, 12, 4, hv (.lit two)), (fEnc, 13, 3, hv (iv (Int.ofNat v))), (fEnc, 13, 4, hv (iv (Int.ofNat z))), (fEnc, 13, 5, h0v (byv (letter z))),
 (fEnc, 15, 1, hv (iv (Int.ofNat (i + 2)))), (fEnc, 15, 4, hv (.lit three)), (fEnc, 16, 3, hv (iv (Int.ofNat w))), (fEnc, 16, 4, h0v (byv (letter w))), (fEnc, 5, 1, hv (iv (Int.ofNat (i + 3))))]
end
abbrev N7' : Nat := 8
abbrev GU' : Nat := 49
abbrev QJ' : Nat := 82
abbrev BO' : Nat := 58
section
variable {W : World} {F : HP}
def ixF (sub : List UInt8) : List UInt8 → Nat → Int
 | [], k => match sub with
  | [] => Int.ofNat k
  | _ :: _ => -1
 | b :: l, k => match sub.isPrefixOf (b :: l) with
  | true => Int.ofNat k
  | false => ixF sub l (k + 1)
theorem aY' (sub : List UInt8) : ∀ (l : List UInt8) (k : Nat), ixF sub l k = if Lib.index l sub = -1 then -1 else Lib.index l sub + k
 | [], k => by
  cases sub with
  | nil => simp [ixF, Lib.index]
  | cons a r => simp [ixF, Lib.index]
 | b :: l, k => by
  rw [ixF, Lib.index]
  cases h : sub.isPrefixOf (b :: l) with
  | true => simp
  | false =>
   have hg := Lib.index_ge l sub
   rw [aY' sub l (k + 1)]
   simp only [Bool.false_eq_true, if_false]
   by_cases h1 : Lib.index l sub = -1
   ·simp [h1]
   ·rw [if_neg h1]
    have h2 : (Lib.index l sub == -1) = false := by simpa using h1
    rw [h2]
    simp only [Bool.false_eq_true, if_false]
    rw [if_neg (by omega)]
    omega
theorem KR' (sub l : List UInt8) : ixF sub l 0 = Lib.index l sub := by
 rw [aY']
 split
 ·rename_i h; rw [h]
 ·simp
def cIdxS : List AV → Option (AP AV) := vC g2s (fun p => p.1.size < 4294967281) (fun p => iv (ixF p.2.data.toList p.1.data.toList 0))
theorem ZR' (hW : LW W) (hF : AE' W F) : C1OK Tryz.prog F QJ' cIdxS :=
 K8' hF (fun p => [.string p.1, .string p.2]) (fun p => .int .i64 (ixF p.2.data.toList p.1.data.toList 0)) G3' (fun p N => vr_v N _) fun p hp w hw => by
  obtain ⟨m, hm⟩ := hW.maxLen
  exact (Tryz.strings_Index p.1 p.2 m w hp (hw.cell hm)).mono fun e w' ⟨h1, h2⟩ => ⟨by rw [h1, KR'], by rw [h2]; exact Below.refl _ _⟩
noncomputable def Z6' : List AV → Option (AP AV) := kC g2s (fun p => Nat.blt p.1.size 4294967281) (fun p => iv (ixF p.2.data.toList p.1.data.toList 0))
theorem ZS' (hW : LW W) (hF : AE' W F) : C1OK Tryz.prog F 103 cIdxS :=
 K8' hF (fun p => [.string p.1, .string p.2]) (fun p => .int .i64 (ixF p.2.data.toList p.1.data.toList 0)) G3' (fun p N => vr_v N _) fun p hp w hw => by
  obtain ⟨m, hm⟩ := hW.maxLen
  exact (Tryz.stringslite_Index p.1 p.2 m w hp (hw.cell hm)).mono fun e w' ⟨h1, h2⟩ => ⟨by rw [h1, KR'], by rw [h2]; exact Below.refl _ _⟩
theorem Z7' (hW : LW W) (hF : AE' W F) : C1OK Tryz.prog F 103 Z6' := gV' (ZS' hW hF) fun p hp => by rw [Nat.blt_eq] at hp; exact hp
theorem Z5' (hW : LW W) (hF : AE' W F) : C1OK Tryz.prog F QJ' Z6' := gV' (ZR' hW hF) fun p hp => by rw [Nat.blt_eq] at hp; exact hp
def lowB (s : ByteArray) : ByteArray := tB (Lib.toLowerA s.data.toList)
def cLow : List AV → Option (AP AV) := vC g1s (fun s => s.size ≤ 140737488355328 ∧ IO' s) (fun s => sv (lowB s))
theorem CX' (hF : AE' W F) : C1OK Tryz.prog F BO' cLow :=
 K8' hF (fun s => [.string s]) (fun s => .string (lowB s)) S7' (fun p N => vr_v N _) fun s hp w hw => Tryz.strings_ToLower_ascii s w hp.1 hp.2
def b6' (s : ByteArray) : Bool := s.data.toList.all fun b => Nat.blt b.toNat 128
theorem QT' {s : ByteArray} (h : b6' s = true) : IO' s := fun j b hb => by
 have := List.all_eq_true.1 h b (List.mem_of_getElem? hb)
 rwa [Nat.blt_eq] at this
noncomputable def kLow : List AV → Option (AP AV) := kC g1s (fun s => Nat.ble s.size 140737488355328 && b6' s) (fun s => sv (lowB s))
theorem gU' (hF : AE' W F) : C1OK Tryz.prog F BO' kLow := gV' (CX' hF) fun s hp => by
 rw [Bool.and_eq_true, Nat.ble_eq] at hp
 exact ⟨hp.1, QT' hp.2⟩
noncomputable def kJoin : List AV → Option (AP AV) := Q3' (fun xs t => Nat.ble xs.length 140737488355328 && Nat.ble (Lib.join (xs.map (·.data.toList)) t.data.toList).length 140737488355328) (fun xs t => sv (gW' xs t))
theorem Z4' (hF : AE' W F) : C1OK Tryz.prog F h6' kJoin := SZ' (ZQ' hF) fun xs t hp => by
 rw [Bool.and_eq_true, Nat.ble_eq, Nat.ble_eq] at hp
 exact hp
noncomputable def V5' : List AV → Option (AP AV) := bP' (fun xs ys => Nat.blt xs.length 4294967281 && Nat.ble ys.length 9223372036854775807) (fun xs ys => iv (ixF (Lib.bytesOf ys) (Lib.bytesOf xs) 0))
theorem T7' (hW : LW W) (hF : AE' W F) : C1OK Tryz.prog F GU' V5' :=
 XD' hF (fun xs ys => .int .i64 (ixF (Lib.bytesOf ys) (Lib.bytesOf xs) 0)) (fun xs ys N => vr_v N _) fun xs ys hp hx hy w hw b x c b2 x2 c2 l1 l2 h1 h2 => by
  obtain ⟨m, hm⟩ := hW.maxLen
  rw [Bool.and_eq_true, Nat.blt_eq, Nat.ble_eq] at hp
  exact (Tryz.bytes_Index_at ⟨b, x, none⟩ ⟨b2, x2, none⟩ xs.length c ys.length c2 xs ys m w rfl rfl hx hy h1 h2 l1 hp.1 hp.2 (hw.cell hm)).mono fun e w' ⟨q1, k, q2⟩ => ⟨by rw [q1, KR'], by rw [q2]; exact ND' (Below.refl _ _) k⟩
theorem XA' {P : Program} {f : FuncId} {fn : Func} (hf : P.funcs[f]? = some fn) (hname : (fn.name == "runtime.NumGoroutine") = false)
  (hb : fn.body.isNone = true) (hn : (Extern.findNext fn).isNone = true) (he : Extern.find fn = some Extern.AbiNoEscape.same) (v : Value) (w : World) :
  (callFunc f #[v]).run P w = .ok (.value v) w := by
 rw [run_callFunc_extern hf hname hb (by simpa using hn) he]
 rfl
def cfg : Cfg := { strs := [], ints := [], same := [128], clone := [], laid := [(4, Lib.pow10Tab.map (Value.int .u64))] }
theorem cfg_ok : CfgOk Tryz.prog cfg where
 strs := fun x hx => by cases hx
 ints := fun x hx => by cases hx
 same := fun x hx => by
  obtain rfl := List.mem_singleton.1 hx
  exact XA' Tryz.func128 (by kernel_rfl) (by kernel_rfl) (by kernel_rfl) (by kernel_rfl)
 clone := fun x hx => by cases hx
theorem ZN' (hW : LW W) {w : World} (hw : IS' W w) : PS' cfg w := by
 intro x hx j v hj
 obtain rfl := List.mem_singleton.1 hx
 have ht := hw.tab hW.pows
 have hlt : j < Lib.pow10Tab.length := by
  have := (List.getElem?_eq_some_iff.1 hj).1
  simpa using this
 have := Lib.TabIs.cell ht (g := 4) (by kernel_rfl) j hlt
 rw [this]
 rw [List.getElem?_map] at hj
 cases hg : Lib.pow10Tab[j]? with
 | none => rw [hg] at hj; cases hj
 | some z =>
  rw [hg] at hj
  cases hj
  simp [List.getD_eq_getElem?_getD, hg]
noncomputable def clSp : ConL := [(GU', V5'), (QJ', Z6'), (103, Z6'), (BO', kLow), (h6', kJoin)]
theorem hH' (hW : LW W) (hF : AE' W F) : ∀ x ∈ clSp, C1OK Tryz.prog F x.1 x.2 :=
 A5' (T7' hW hF) (A5' (Z5' hW hF) (A5' (Z7' hW hF) (A5' (gU' hF) (A5' (Z4' hF) noC))))
set_option maxRecDepth 1000000 in
theorem O0' (hW : LW W) {w : World} (hw : IS' W w) : Calls Tryz.prog N7' (List.toArray []) w fun e w' => e = .returned (.bool true) ∧ Below w.heap.size w w' :=
 P7' (cl := clSp) (args := []) cfg_ok (by kernel_rfl) (fuel := 100000) (fun w => by kernel_rfl) (ZN' hW hw) (hH' hW (fun D w' hF b o hv => MV' w D w' hF b o (hw b o hv)))
def gN : List AV → Option Unit
 | [] => some ()
 | _ => none
def cSpk : List AV → Option (AP AV) := vC gN (fun _ => True) (fun _ => bv true)
theorem hL' (hW : LW W) (hF : AE' W F) : C1OK Tryz.prog F N7' cSpk :=
 K8' hF (fun _ => []) (fun _ => .bool true) (fun A p h => by
  unfold gN at h
  split at h
  ·rfl
  ·cases h) (fun p N => vr_v N _) fun p _ w hw => O0' hW hw
end
noncomputable section
abbrev ZI' : Nat := 6
abbrev fGet : Nat := 42
def hU (i : Nat) (c : UInt8) (b : Bool) : B4' := AB' [(ZI', 4, 0, hv (.lit true)), (ZI', 6, 2, h0v (byv c)), (ZI', 6, 3, hv (.lit b)), (ZI', 8, 0, hv (iv (Int.ofNat (i + 1))))]
def nmEn (a : Nat) : Nat → Nat := fun k => match Nat.beq k 1000 with
 | true => a
 | false => k
end
theorem HU' (c : UInt8) : ∀ (u v : List UInt8), c ∉ u → Lib.index (u ++ c :: v) [c] = u.length
 | [], v, _ => by simp [Lib.index, List.isPrefixOf]
 | x :: u, v, h => by
  have hx : (c == x) = false := beq_eq_false_iff_ne.2 (fun e => h (by subst e; exact List.mem_cons_self))
  have ih := HU' c u v (fun e => h (List.mem_cons_of_mem _ e))
  rw [List.cons_append, Lib.index]
  have hp : [c].isPrefixOf (x :: (u ++ c :: v)) = false := by simp [List.isPrefixOf, hx]
  rw [hp]
  simp only [Bool.false_eq_true, if_false]
  rw [ih]
  have h2 : (((u.length : Nat) : Int) == -1) = false := by rw [beq_eq_false_iff_ne]; omega
  rw [h2]
  simp
theorem VS' (c : UInt8) (u v : List UInt8) (h : c ∉ u) : Lib.cut (u ++ c :: v) [c] = (u, v, true) := by
 unfold Lib.cut
 rw [HU' c u v h, if_pos (by omega)]
 simp
def cutL (x : UInt8) : List UInt8 → List (List UInt8)
 | [] => [[]]
 | c :: l => if c = x then [] :: cutL x l else match cutL x l with
  | [] => [[c]]
  | u :: r => (c :: u) :: r
theorem hB' (x : UInt8) : ∀ l, cutL x l ≠ []
 | [] => by simp [cutL]
 | c :: l => by
  rw [cutL]
  by_cases h : c = x
  ·simp [h]
  ·rw [if_neg h]
   split <;> simp
theorem SF' (x : UInt8) (l : List UInt8) : cutL x (x :: l) = [] :: cutL x l := by rw [cutL, if_pos rfl]
theorem L0' {x c : UInt8} (h : c ≠ x) (l : List UInt8) : ∃ u r, cutL x l = u :: r ∧ cutL x (c :: l) = (c :: u) :: r := by
 cases e : cutL x l with
 | nil => exact absurd e (hB' x l)
 | cons u r => exact ⟨u, r, rfl, by rw [cutL, if_neg h, e]⟩
def hexV (c : UInt8) : Option Nat :=
 if 48 ≤ c.toNat ∧ c.toNat ≤ 57 then some (c.toNat - 48)
 else if 97 ≤ c.toNat ∧ c.toNat ≤ 102 then some (c.toNat - 97 + 10)
 else if 65 ≤ c.toNat ∧ c.toNat ≤ 70 then some (c.toNat - 65 + 10)
 else none
def hex2 (a b : UInt8) : Option Nat := match hexV a, hexV b with
 | some x, some y => some (x * 16 + y)
 | _, _ => none
def pcs : List (List UInt8) → Option (List UInt8)
 | [] => some []
 | (a :: b :: p) :: r => match hex2 a b, pcs r with
  | some n, some u => some (UInt8.ofNat n :: (p ++ u))
  | _, _ => none
 | _ :: _ => none
def unesc (l : List UInt8) : Option (List UInt8) := match cutL 37 l with
 | [] => none
 | u :: r => (pcs r).map (u ++ ·)
def aJ' : List (List UInt8) → Option (List (List UInt8))
 | [] => some []
 | p :: r => match unesc p, aJ' r with
  | some u, some v => some (u :: v)
  | _, _ => none
def ahead : List UInt8 → List UInt8
 | [] => []
 | c :: l => if c = 63 then [] else c :: ahead l
def under (part : List UInt8) : List (List UInt8) → Option (List (List UInt8))
 | [] => none
 | h :: t => match unesc h, aJ' t with
  | some u, some v => some ((part ++ u) :: v)
  | _, _ => none
theorem MB' (x : UInt8) (v : List UInt8) : ∀ u : List UInt8, x ∉ u → cutL x (u ++ x :: v) = u :: cutL x v
 | [], _ => by rw [List.nil_append, SF']
 | c :: u, h => by
  have hc : c ≠ x := fun e => h (by subst e; exact List.mem_cons_self)
  rw [List.cons_append]
  obtain ⟨a, r, e1, e2⟩ := L0' hc (u ++ x :: v)
  rw [MB' x v u fun e => h (List.mem_cons_of_mem _ e)] at e1
  obtain ⟨rfl, rfl⟩ := List.cons.inj e1
  exact e2
theorem P3' (x : UInt8) : ∀ u : List UInt8, x ∉ u → cutL x u = [u]
 | [], _ => rfl
 | c :: u, h => by
  have hc : c ≠ x := fun e => h (by subst e; exact List.mem_cons_self)
  obtain ⟨a, r, e1, e2⟩ := L0' hc u
  rw [P3' x u fun e => h (List.mem_cons_of_mem _ e)] at e1
  obtain ⟨rfl, rfl⟩ := List.cons.inj e1
  exact e2
theorem H5' (c : UInt8) : ∀ l : List UInt8, c ∉ l → Lib.index l [c] = -1
 | [], _ => by simp [Lib.index]
 | x :: l, h => by
  have hx : (c == x) = false := beq_eq_false_iff_ne.2 (fun e => h (by subst e; exact List.mem_cons_self))
  have ih := H5' c l (fun e => h (List.mem_cons_of_mem _ e))
  rw [Lib.index]
  have hp : [c].isPrefixOf (x :: l) = false := by simp [List.isPrefixOf, hx]
  rw [hp, ih]
  simp
theorem SY' (x : UInt8) : ∀ (m : Nat) (s : ByteArray), s.size ≤ m → (Lib.splitB ⟨#[x]⟩ 0 (Lib.countB s ⟨#[x]⟩) s).map (·.data.toList) = cutL x s.data.toList := by
 intro m
 induction m with
 | zero =>
  intro s hs
  have h0 : s.data.toList = [] := List.eq_nil_of_length_eq_zero (by rw [J5']; omega)
  have hi : Lib.indexB s ⟨#[x]⟩ = -1 := by
   show Lib.index s.data.toList [x] = -1
   rw [h0]; exact H5' x [] (by simp)
  rw [Lib.splitB_miss _ _ _ _ hi, h0]
  simp [cutL, h0]
 | succ m ih =>
  intro s hs
  by_cases hx : x ∈ s.data.toList
  ·obtain ⟨u, v, e, hu⟩ := List.eq_append_cons_of_mem hx
   have hi : Lib.indexB s ⟨#[x]⟩ = (u.length : Int) := by
    show Lib.index s.data.toList [x] = _
    rw [e]; exact HU' x u v hu
   have hsz : s.size = u.length + 1 + v.length := by rw [← J5', e]; simp; omega
   have hc := Lib.countB_hit s ⟨#[x]⟩ u.length (Nat.le_refl 1) hi
   have h1 : (ByteArray.mk #[x]).size = 1 := rfl
   rw [h1] at hc
   have hrest : (s.extract (u.length + 1) s.size).data.toList = v := by
    rw [ER' _ _ _ (n0), e, List.drop_append, List.drop_eq_nil_of_le (by omega), List.nil_append, Nat.add_sub_cancel_left, List.drop_succ_cons, List.drop_zero]
    exact List.take_of_length_le (by omega)
   rw [hc, Nat.add_comm 1, Lib.splitB_hit _ _ _ _ _ hi, h1, List.map_cons, ih _ (by rw [← J5', hrest]; omega), hrest, e, MB' x v u hu]
   congr 1
   rw [Nat.add_zero, ER' _ _ _ (by omega), e]
   simp
  ·have hi : Lib.indexB s ⟨#[x]⟩ = -1 := H5' x _ hx
   rw [Lib.splitB_miss _ _ _ _ hi, P3' x _ hx]
   rfl
def cutB (x : UInt8) (s : ByteArray) : List ByteArray := (cutL x s.data.toList).map tB
theorem TZ' (x : UInt8) (s : ByteArray) : Lib.splitB ⟨#[x]⟩ 0 (Lib.countB s ⟨#[x]⟩) s = cutB x s := by
 have h := SY' x s.size s (n0)
 unfold cutB
 rw [← h, List.map_map]
 have : (tB ∘ fun b : ByteArray => b.data.toList) = id := funext fun b => HT' b
 rw [this, List.map_id]
noncomputable def rowC {π : Type} (get : List AV → Option π) (pre : π → Prop) (vals : π → List Value) (e : TypeId) : List AV → Option (AP AV) := fun args => match get args with
 | some p => some (.need (pre p) (.new (.cells (vmap (vals p)) (2 * e)) fun i => .ret (.slice i 0 (vals p).length 1 (.lo (vals p).length))))
 | none => some (.fail "arguments")
theorem bO' {W : World} {F : HP} (hF : AE' W F) {f : FuncId} {π : Type} {get : List AV → Option π} {pre : π → Prop} {vals : π → List Value} {e : TypeId} (args : π → List Value) (hg : ∀ A p, get A = some p → A = vmap (args p))
  (h : ∀ p, pre p → ∀ w, IS' W w → Calls Tryz.prog f (args p).toArray w fun ed w' => ed = .returned (.slice (some ⟨w.heap.size, 0, none⟩) (vals p).length (vals p).length) ∧ w' = w.alloc (.cells (vals p).toArray e)) : C1OK Tryz.prog F f (rowC get pre vals e) := by
 intro st W0 N h0 w A vargs v h' n n' lg lg' c q hp he hc r ha hf
 unfold rowC at hp
 split at hp
 ·rename_i p hg1
  cases hp
  obtain ⟨c1, e1, rfl⟩ := AH' he
  obtain ⟨hpre, hc1⟩ := (Cnd.and_iff _ _).1 hc
  obtain ⟨hn, e2⟩ := BM' e1
  obtain ⟨rfl, rfl, rfl⟩ := AD' e2
  have hA := hg _ _ hg1
  subst hA
  have : vargs = (args p).toArray := by
   have := ha.of_vmap
   rw [← this]
  subst this
  obtain ⟨D0, D, h1, h2, h3⟩ := r.sat
  refine (h p hpre w (hF D0 w h1)).mono ?_
  rintro ed w' ⟨rfl, rfl⟩
  have hle := AC'.put_le (l := ⟨w.heap.size, 0, (vals p).length⟩) (hf n (n0) (by omega))
  refine ⟨_, N.put n ⟨w.heap.size, 0, (vals p).length⟩, rfl, ?_, ?_, Ext.put⟩
  ·refine r.new hn hle ((Below.refl _ w).alloc (n0) _) ⟨fun x => x = w.heap.size, ?_, fun b hb => by subst hb; exact n0⟩
   refine ⟨⟨w.heap.size, 0, (vals p).length⟩, (vals p).toArray, (0, 0), AC'.put_same, fun _ => Iff.rfl, (by rw [Nat.mul_div_cancel_left _ (by decide : 0 < 2)]; exact heap_alloc_new w _), by simp, by rw [C8']; simp, .inl rfl, ?_, fun _ => ⟨rfl, rfl⟩⟩
   have : (((vals p).toArray).toList.drop 0).take (vmap (vals p)).length = vals p := by rw [C8']; simp
   rw [this]
   exact VRs.vmap _
  ·simp only [VR]
   exact ⟨_, 0, _, AC'.put_same, rfl, .inl rfl, by simp, by simp only [Cp.fits]; omega, n0⟩
 ·cases hp
  cases he
abbrev VG' : Nat := 26
theorem HE' (l : List ByteArray) : rowV encS l = vmap (l.map Value.string) := by
 unfold rowV
 congr 1
 induction l with
 | nil => rfl
 | cons a l ih => rw [List.flatMap_cons, List.map_cons, ih]; rfl
noncomputable section
end
structure LW2 (W : World) : Prop extends LW W where
 errS : ∃ te pe, W.cell? ⟨2, 0, none⟩ = some (.iface te pe)
theorem cls : ∀ c : Fin 256, (c.1 ≠ 95 ∧ 48 ≤ c.1 ∧ c.1 ≤ 57 ∧ hexV (UInt8.ofNat c.1) = some (c.1 - 48)) ∨
  (c.1 ≠ 95 ∧ 57 < c.1 ∧ 97 ≤ c.1 ||| 32 ∧ c.1 ||| 32 ≤ 122 ∧ (c.1 ||| 32) - 97 + 10 < 16 ∧ hexV (UInt8.ofNat c.1) = some ((c.1 ||| 32) - 97 + 10)) ∨
  (c.1 ≠ 95 ∧ 57 < c.1 ∧ 97 ≤ c.1 ||| 32 ∧ c.1 ||| 32 ≤ 122 ∧ 16 ≤ (c.1 ||| 32) - 97 + 10 ∧ hexV (UInt8.ofNat c.1) = none) ∨
  (c.1 ≠ 95 ∧ c.1 < 48 ∧ c.1 ||| 32 < 97 ∧ hexV (UInt8.ofNat c.1) = none) ∨
  (c.1 ≠ 95 ∧ 57 < c.1 ∧ c.1 ||| 32 < 97 ∧ hexV (UInt8.ofNat c.1) = none) ∨
  (c.1 ≠ 95 ∧ 57 < c.1 ∧ 97 ≤ c.1 ||| 32 ∧ 122 < c.1 ||| 32 ∧ hexV (UInt8.ofNat c.1) = none) ∨
  (c.1 = 95 ∧ 57 < c.1 ∧ 97 ≤ c.1 ||| 32 ∧ 122 < c.1 ||| 32 ∧ hexV (UInt8.ofNat c.1) = none) := by decide +kernel
theorem VAll.mono {α : Type} {Q Q' : α → List (Option AO) → Nat → Prop} {v : VT α} (h : VAll Q v) (hq : ∀ a os n, Q a os n → Q' a os n) : VAll Q' v := ⟨VT.all_mono hq h.out⟩
end Go.Proofs.YtpijbbobejeemaaGreatDoor.Htp
