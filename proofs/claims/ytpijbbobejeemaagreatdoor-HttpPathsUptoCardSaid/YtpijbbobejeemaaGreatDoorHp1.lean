/- Parts of the proof, merged. -/
import Derived.Test.YtpijbbobejeemaaGreatDoorEngLoopE
import Derived.Test.YtpijbbobejeemaaGreatDoorEngKit3
import Derived.Test.YtpijbbobejeemaaGreatDoorEngCon
import Derived.Test.YtpijbbobejeemaaGreatDoorEngRow
import Derived.Test.YtpijbbobejeemaaGreatDoorEngKit
import Derived.Lib.LaidTab
import Derived.Test.YtpijbbobejeemaaGreatDoorShelf
import Derived.Lib.AppendIntMem
import Derived.Test.YtpijbbobejeemaaGreatDoorEngClosedC
import Derived.Laws.Externs
import Derived.Test.YtpijbbobejeemaaGreatDoorEngSorted
import Derived.Lib.SplitLaws
import Derived.Test.YtpijbbobejeemaaGreatDoorProg
import Derived.KernelRfl
import Derived.WalkKit
import Derived.Lib.Strings
import Derived.Lib.Slices
import Derived.Lib.Walk
import Derived.Lib.Bytealg
import Derived.Laws.RangeAny
import Derived.Laws.Runes
/- Code in pieces: behind a piece the state is one of many, which one is known in the world alone. No program. -/
set_option linter.unusedVariables false
set_option linter.unusedSimpArgs false
namespace Go.Proofs.YtpijbbobejeemaaGreatDoor.Eng
open Go Go.RowKit
def CTri (P : Program) (W : World) (cd : Code) (A : List AV) (H : LH) {ρ : Type} (ax : ρ → AX) (A' : ρ → List AV) (H' : ρ → LH) : Prop :=
  ∀ (W0 : World) (F : HP) (N : Names) (w : World) (a : Act) (Q : Exit → Act → World → Prop), OldOK W F → NB N H → Rep W0 N F (heapOf H) w → VRs N A a.tmps.toList →
    (∀ r a' w', St W0 F N (H' r) (A' r) a'.tmps.toList w' → a'.defers = a.defers → Q (exitOf (ax r)) a' w') → cd.wp P Q a w
section
variable {P : Program} {W : World} {ρ σ : Type}
theorem CTri.pre {cd : Code} {A A1 : List AV} {H H1 : LH} {ax : ρ → AX} {A' : ρ → List AV} {H' : ρ → LH} (h : CTri P W cd A1 H1 ax A' H') (hg : Goes A H A1 H1) : CTri P W cd A H ax A' H' := by
  intro W0 F N w a Q hF hN r ha hK
  obtain ⟨N1, g1, g2, g3, g4⟩ := hg W0 F N _ _ ⟨N, fun _ _ => rfl, hN, r, ha⟩
  exact h W0 F N1 w a Q hF g2 g3 g4 fun q a' w' ⟨N2, k1, k2, k3, k4⟩ hd => hK q a' w' ⟨N2, fun i hi => (k1 i hi).trans (g1 i hi), k2, k3, k4⟩ hd
theorem CTri.post {cd : Code} {A : List AV} {H : LH} {ax : ρ → AX} {A' : ρ → List AV} {H' : ρ → LH} {ρ2 : Type} {ax2 : ρ2 → AX} {A2 : ρ2 → List AV} {H2 : ρ2 → LH} (h : CTri P W cd A H ax A' H') (hg : ∀ r, ∃ r2, ax2 r2 = ax r ∧ Goes (A' r) (H' r) (A2 r2) (H2 r2)) : CTri P W cd A H ax2 A2 H2 := by
  intro W0 F N w a Q hF hN r ha hK
  refine h W0 F N w a Q hF hN r ha fun q a' w' hs hd => ?_
  obtain ⟨r2, e, hg⟩ := hg q
  rw [← e]
  exact hK r2 a' w' (hg _ _ _ _ _ hs) hd
theorem CTri.seq {c1 c2 : Code} {A : List AV} {H : LH} {A1 : σ → List AV} {H1 : σ → LH} {ax : ρ → AX} {A' : ρ → List AV} {H' : ρ → LH} (h1 : CTri P W c1 A H (fun _ : σ => .normal) A1 H1) (h2 : ∀ s, CTri P W c2 (A1 s) (H1 s) ax A' H') : CTri P W (.seq c1 c2) A H ax A' H' := by
  intro W0 F N w a Q hF hN r ha hK
  refine wp_seq (h1 W0 F N w a _ hF hN r ha fun s a' w' hs hd => ?_)
  obtain ⟨N1, g1, g2, g3, g4⟩ := hs
  exact h2 s W0 F N1 w' a' Q hF g2 g3 g4 fun q a2 w2 ⟨N2, k1, k2, k3, k4⟩ hd2 => hK q a2 w2 ⟨N2, fun i hi => (k1 i hi).trans (g1 i hi), k2, k3, k4⟩ (hd2.trans hd)
theorem CTri.block {c : Code} {id : Nat} {A : List AV} {H : LH} {A' : ρ → List AV} {H' : ρ → LH} (h : CTri P W c A H (fun _ : ρ => .exit id) A' H') : CTri P W (.block id c) A H (fun _ : ρ => .normal) A' H' := by
  intro W0 F N w a Q hF hN r ha hK
  refine wp_block (h W0 F N w a _ hF hN r ha fun q a' w' hs hd => ?_)
  show (if id = id then Q .normal a' w' else _)
  rw [if_pos rfl]
  exact hK q a' w' hs hd
theorem Tri.body {f : FuncId} {fn : Func} {cd : Code} {t m : Nat} {A A0 : List AV} {H H' : LH} {v : AV} {ax : AX} (hfn : P.funcs[f]? = some fn) (hcd : fn.body = some cd) (hres : fn.results = #[.tmp t]) (hm : fn.ntmps = m) (hA0 : A ++ List.replicate (m - A.length) AV.undef = A0) (hax : ax = .ret ∨ ax = .normal) (ht : t < m)
    (h : CTri P W cd A0 H (fun _ : Unit => ax) (fun _ => tms 0 m [(t, v)]) (fun _ => H')) : Tri P W f A H v H' := by
  intro W0 F N w vargs hF hN r ha
  have hlen : A.length = vargs.size := by rw [ha.len]; simp
  refine calls_of_wp hfn hcd ?_
  refine h W0 F N w _ _ hF hN r ?_ fun _ a' w' hs hd => ?_
  · subst hA0
    rw [Array.toList_append, Array.toList_replicate, hm, hlen]
    refine ha.append ?_
    generalize m - vargs.size = k
    induction k with
    | zero => exact VRs_nil
    | succ k ih => exact VRs_cons.2 ⟨undef_VR, ih⟩
  · obtain ⟨N1, g1, g2, g3, g4⟩ := hs
    have hv : ∀ (k j : Nat) (l : List Value), k ≤ t → t < k + j → VRs N1 (tms k j [(t, v)]) l → ∃ y, l[t - k]? = some y ∧ VR N1 v y := by
      intro k j
      induction j generalizing k with
      | zero => intro l h1 h2; omega
      | succ j ih =>
        intro l h1 h2 hl
        rw [tms] at hl
        simp only [VRs] at hl
        obtain ⟨y, l', q1, q2, rfl⟩ := hl
        by_cases e : k = t
        · subst e
          refine ⟨y, by simp, ?_⟩
          simpa using q1
        · obtain ⟨z, z1, z2⟩ := ih (k + 1) l' (by omega) (by omega) q2
          exact ⟨z, by rw [show t - k = (t - (k + 1)) + 1 from by omega, List.getElem?_cons_succ]; exact z1, z2⟩
    obtain ⟨y, hy, hvy⟩ := hv 0 m _ (Nat.zero_le _) (by omega) g4
    have hr : (results fn a'.tmps).run P w' = .ok y w' := by
      unfold results
      rw [hres]
      have : a'.tmps.getD t Go.undef = y := by
        rw [Nat.sub_zero, Array.getElem?_toList] at hy
        simp [Array.getD_eq_getD_getElem?, hy]
      rw [Array.getD_eq_getD_getElem?] at this
      simp [this]
    have hpost : a'.defers = [] ∧ ∃ y, (results fn a'.tmps).run P w' = .ok y w' ∧ ∃ z, Ending.returned y = .returned z ∧ St W0 F N H' [v] [z] w' := ⟨hd, y, hr, y, rfl, N1, g1, g2, g3, VRs_cons.2 ⟨hvy, VRs_nil⟩⟩
    rcases hax with rfl | rfl
    · exact hpost
    · exact hpost
theorem CTri.run {con : ConT} {claim : ClaimT} {lcon : LconT} {g : FuncId} {cd : Code} {A : List AV} {H : LH} {ax : ρ → AX} {A' : ρ → List AV} {H' : ρ → LH} (ks : List Nat) (fuel : Nat) (hm : P.follows .mixedOrders = true) (hH : namesLt 1100 H = true)
    (hcon : ∀ F, OldOK W F → ConOK P (envO P F con claim lcon W)) (hl : ∀ F, OldOK W F → LconOK P (envO P F con claim lcon W))
    (hrun : ∀ F, OldOK W F → (((runCode P (envO P F con claim lcon W) fuel g cd A).run2 (heapOf H) 1100 []).view ks).all fun u os _ => FitsE ks u.2 os fun W0 F N ys w => ∃ q, ax q = u.1 ∧ St W0 F N (H' q) (A' q) ys w) : CTri P W cd A H ax A' H' := by
  intro W0 F N w a Q hF hN r ha hK
  obtain ⟨⟨x, t⟩, h', n', lg', c, he, hc, hq⟩ := VT.all_pick (hrun F hF)
  rw [run2_pick] at he
  refine (runCode_sound hF.env hm (hcon F hF) (hl F hF) fuel).1 _ _ _ _ _ _ _ _ _ _ _ _ _ _ _ _ _ _ he hc r ha (fun i h1 h2 => hN.nothing hH h1) fun N2 a2 w2 r2 t2 d2 x2 => ?_
  have hlim := run_limit _ he (by decide)
  obtain ⟨q, e, hs⟩ := hq.state r2 x2 hlim (fun i hi => hN.nothing hH hi) t2
  simp only at e
  rw [← e]
  exact hK q a2 w2 hs d2
theorem CTri.loop {con : σ → ConT} {claim : σ → ClaimT} {lcon : σ → LconT} {g : FuncId} {b : Code} (A : σ → List AV) (H : σ → LH) (ax : ρ → AX) (A' : ρ → List AV) (H' : ρ → LH) (hax : ∀ q, ax q ≠ .normal) (μ : σ → Nat) (ks : List Nat) (fuel : Nat) (hm : P.follows .mixedOrders = true)
    (hH : ∀ s, namesLt 1100 (H s) = true)
    (hcon : ∀ s F, OldOK W F → ConOK P (envO P F (con s) (claim s) (lcon s) W)) (hl : ∀ s F, OldOK W F → LconOK P (envO P F (con s) (claim s) (lcon s) W))
    (hstep : ∀ s F, OldOK W F → (((runCode P (envO P F (con s) (claim s) (lcon s) W) fuel g b (A s)).run2 (heapOf (H s)) 1100 []).view ks).all fun r os _ =>
      FitsE ks r.2 os fun W0 F N ys w => (r.1 = .normal ∧ ∃ s', μ s' < μ s ∧ St W0 F N (H s') (A s') ys w) ∨ ∃ q, ax q = r.1 ∧ St W0 F N (H' q) (A' q) ys w) (s : σ) :
    CTri P W (.loop b) (A s) (H s) ax A' H' := by
  intro W0 F N w a Q hF hN r ha hK
  refine wp_loop_rounds (μ s + 1) ?_
  have key : ∀ (m : Nat) (s : σ), μ s < m → ∀ (N1 : Names) (w : World) (a1 : Act), (∀ i, i < 1000 → N1 i = N i) → NB N1 (H s) → Rep W0 N1 F (heapOf (H s)) w → VRs N1 (A s) a1.tmps.toList → a1.defers = a.defers →
      Code.rounds P b Q m a1 w := by
    intro m
    induction m with
    | zero => intro s hs; omega
    | succ m ih =>
      intro s hs N1 w a1 hN1 hNB r ha hd
      rw [rounds_succ]
      obtain ⟨⟨x, t⟩, h', n', lg', c, he, hc, hq⟩ := VT.all_pick (hstep s F hF)
      rw [run2_pick] at he
      refine (runCode_sound hF.env hm (hcon s F hF) (hl s F hF) fuel).1 _ _ _ _ _ _ _ _ _ _ _ _ _ _ _ _ _ _ he hc r ha (fun i h1 h2 => hNB.nothing (hH s) h1) fun N2 a2 w2 r2 t2 d2 x2 => ?_
      have hlim := run_limit _ he (by decide)
      have hN0 : ∀ i, 1100 ≤ i → N1 i = none := fun i hi => hNB.nothing (hH s) hi
      rcases hq.state r2 x2 hlim hN0 t2 with ⟨e, s', hμ, N3, q1, q2, q3, q4⟩ | ⟨q, e, N3, q1, q2, q3, q4⟩
      · simp only at e
        subst e
        show Code.rounds P b Q m a2 w2
        exact ih s' (by omega) N3 w2 a2 (fun i hi => (q1 i hi).trans (hN1 i hi)) q2 q3 q4 (d2.trans hd)
      · have hfin := hK q a2 w2 ⟨N3, fun i hi => (q1 i hi).trans (hN1 i hi), q2, q3, q4⟩ (d2.trans hd)
        have hx : x ≠ .normal := fun h => hax q (e.trans h)
        rw [e] at hfin
        cases x with
        | normal => exact absurd rfl hx
        | exit id => exact hfin
        | ret => exact hfin
  exact key _ s (by omega) N w a (fun _ _ => rfl) hN r ha rfl
end
end Go.Proofs.YtpijbbobejeemaaGreatDoor.Eng

/- Code in pieces, over the program. -/
set_option linter.unusedVariables false
set_option linter.unusedSimpArgs false
namespace Go.Proofs.YtpijbbobejeemaaGreatDoor.Kit
open Go Go.RowKit Go.Proofs.YtpijbbobejeemaaGreatDoor.Eng
section
variable {W : World} {g : FuncId} {ρ σ : Type}
end
/-! Pieces of code. -/
def fst : Code → Code
  | .seq a _ => a
  | c => c
def snd : Code → Code
  | .seq _ b => b
  | c => c
end Go.Proofs.YtpijbbobejeemaaGreatDoor.Kit

/- Rows of like elements: cells one by one. No program. -/
set_option linter.unusedVariables false
set_option linter.unusedSimpArgs false
namespace Go.Proofs.YtpijbbobejeemaaGreatDoor.Eng
open Go Go.RowKit
section
variable {α : Type} {enc : α → List Value} {k : Nat}
theorem row_getD (hk : ∀ x, (enc x).length = k) (L : List α) (d0 : α) (i : Nat) (hi : i < L.length) (j : Nat) (hj : j < k) (v : Value) (hv : (enc (L.getD i d0))[j]? = some v) (d : AV) : (rowV enc L).getD (0 + i * k + j) d = .v v := by
  have h := rowV_span hk L d0 i hi
  have h2 : (((rowV enc L).drop (i * k)).take k)[j]? = some (.v v) := by
    rw [h, vmap, List.getElem?_map, hv]; rfl
  rw [List.getElem?_take_of_lt hj, List.getElem?_drop] at h2
  rw [Nat.zero_add, List.getD, h2]; rfl
end
theorem getD_lt {α : Type} {L : List α} {d : α} {i : Nat} (h : i < L.length) : L.getD i d ∈ L := by
  rw [List.getD, List.getElem?_eq_getElem h]; exact List.getElem_mem h
end Go.Proofs.YtpijbbobejeemaaGreatDoor.Eng

/- Rows of texts and of bytes; small laws that runs leave. -/
set_option linter.unusedVariables false
set_option linter.unusedSimpArgs false
set_option maxRecDepth 100000
namespace Go.Proofs.YtpijbbobejeemaaGreatDoor.Kit
open Go Go.RowKit Go.Proofs.YtpijbbobejeemaaGreatDoor.Eng
/-! Rows of texts. -/
def encS (s : ByteArray) : List Value := [.string s]
def nil0 : ByteArray := ByteArray.empty
abbrev tStr : TypeId := 2 * 9
def rS (l : List ByteArray) : AO := .cells (rowV encS l) tStr
theorem encS_len (x : ByteArray) : (encS x).length = 1 := rfl
theorem rS_len (M : List ByteArray) : (rowV encS M).length = M.length := by rw [rowV_length (k := 1) encS_len, Nat.mul_one]
theorem rS_ren (σ : Nat → Nat) (L : List ByteArray) : (rS L).ren σ = rS L := by simp only [rS, AO.ren, rens_rowV]
theorem rS_ow {x : List AV} {L : List ByteArray} {e : TypeId} {σ : Nat → Nat} (h : x = rowV encS L) (he : e = tStr) : OW (.cells x e) ((rS L).ren σ) := by rw [rS_ren]; subst h he; exact OW.refl _
theorem rS_cl (K : Nat → Bool) (L : List ByteArray) : (rS L).cl K := cls_rowV _ _
theorem rS_get (M : List ByteArray) (i : Nat) (hi : i < M.length) (d : AV) : (rowV encS M).getD (0 + i * 1) d = sv (M.getD i nil0) := by
  have := row_getD (k := 1) encS_len M nil0 i hi 0 (by decide) (.string (M.getD i nil0)) rfl d
  simpa [sv] using this
theorem rS_lt (M : List ByteArray) (i : Nat) (hi : i < M.length) : (0 + i * 1).blt (rowV encS M).length = true := by
  rw [rS_len, Nat.blt_eq]; omega
/-! Rows of bytes. -/
def byv (b : UInt8) : AV := .v (.int .u8 b.toNat)
def encB (b : UInt8) : List Value := [.int .u8 b.toNat]
abbrev tByt : TypeId := 2 * 5
def rB (l : List UInt8) : AO := .cells (rowV encB l) tByt
def rB1 (l : List UInt8) : AO := .cells (rowV encB l) (tByt + 1)
def sB (i n : Nat) : AV := .slice i 0 n 1 (.lo n)
theorem encB_len (x : UInt8) : (encB x).length = 1 := rfl
theorem rB_len (M : List UInt8) : (rowV encB M).length = M.length := by rw [rowV_length (k := 1) encB_len, Nat.mul_one]
theorem rB_ren (σ : Nat → Nat) (L : List UInt8) : (rB L).ren σ = rB L := by simp only [rB, AO.ren, rens_rowV]
theorem rB1_ren (σ : Nat → Nat) (L : List UInt8) : (rB1 L).ren σ = rB1 L := by simp only [rB1, AO.ren, rens_rowV]
theorem rB_ow {x : List AV} {L : List UInt8} {e : TypeId} {σ : Nat → Nat} (h : x = rowV encB L) (he : e = tByt) : OW (.cells x e) ((rB L).ren σ) := by rw [rB_ren]; subst h he; exact OW.refl _
theorem rB1_ow {x : List AV} {L : List UInt8} {e : TypeId} {σ : Nat → Nat} (h : x = rowV encB L) (he : e = tByt + 1) : OW (.cells x e) ((rB1 L).ren σ) := by rw [rB1_ren]; subst h he; exact OW.refl _
theorem rB_cl (K : Nat → Bool) (L : List UInt8) : (rB L).cl K := cls_rowV _ _
theorem rB1_cl (K : Nat → Bool) (L : List UInt8) : (rB1 L).cl K := cls_rowV _ _
theorem rB_get (M : List UInt8) (i : Nat) (hi : i < M.length) (d : AV) : (rowV encB M).getD (0 + i * 1) d = byv (M.getD i 0) := by
  have := row_getD (k := 1) encB_len M 0 i hi 0 (by decide) (.int .u8 (M.getD i 0).toNat) rfl d
  simpa [byv] using this
theorem rB_lt (M : List UInt8) (i : Nat) (hi : i < M.length) : (0 + i * 1).blt (rowV encB M).length = true := by
  rw [rB_len, Nat.blt_eq]; omega
theorem rowB_map (l : List UInt8) : rowV encB l = vmap (l.map fun b => .int .u8 b.toNat) := by
  unfold rowV
  congr 1
  induction l with
  | nil => rfl
  | cons a l ih => rw [List.flatMap_cons, List.map_cons, ih]; rfl
theorem rB_in {p : Nat} {P : List UInt8} (h : P.length = p) : (0 + p * 1).ble (rowV encB P).length = true := by rw [rB_len, Nat.ble_eq]; omega
theorem rB_full {p : Nat} {P : List UInt8} (h : P.length = p) : (List.take (p * 1) (List.drop 0 (rowV encB P))).length.beq (p * 1) = true := by
  have : (List.take (p * 1) (List.drop 0 (rowV encB P))).length = p * 1 := by rw [List.length_take, List.drop_zero, rB_len]; omega
  rw [this]; exact Nat.beq_refl _
theorem rB_adds {p : Nat} {P : List UInt8} (h : P.length = p) (l : List UInt8) : List.take (p * 1) (List.drop 0 (rowV encB P)) ++ rowV encB l = rowV encB (P ++ l) := by
  rw [List.drop_zero, List.take_of_length_le (by rw [rB_len]; omega), ← rowV_append]
theorem rS_in' {p : Nat} {P : List ByteArray} (h : P.length = p) : (0 + p * 1).ble (rowV encS P).length = true := by rw [rS_len, Nat.ble_eq]; omega
theorem rS_full {p : Nat} {P : List ByteArray} (h : P.length = p) : (List.take (p * 1) (List.drop 0 (rowV encS P))).length.beq (p * 1) = true := by
  have : (List.take (p * 1) (List.drop 0 (rowV encS P))).length = p * 1 := by rw [List.length_take, List.drop_zero, rS_len]; omega
  rw [this]; exact Nat.beq_refl _
theorem rS_adds {p : Nat} {P : List ByteArray} (h : P.length = p) (l : List ByteArray) : List.take (p * 1) (List.drop 0 (rowV encS P)) ++ rowV encS l = rowV encS (P ++ l) := by
  rw [List.drop_zero, List.take_of_length_le (by rw [rS_len]; omega), ← rowV_append]
theorem ltTN {j n : Nat} (h : j < n) : decide (Int.ofNat j < Int.ofNat n) = true := decide_eq_true (by simp only [Int.ofNat_eq_natCast]; omega)
theorem ltFN {j n : Nat} (h : n ≤ j) : decide (Int.ofNat j < Int.ofNat n) = false := decide_eq_false (by simp only [Int.ofNat_eq_natCast]; omega)
theorem ltFG {j n : Nat} (h : n ≤ j) : decide (Int.ofNat j < (n : Int)) = false := decide_eq_false (by simp only [Int.ofNat_eq_natCast]; omega)
theorem ble_of {a b : Nat} (h : a ≤ b) : a.ble b = true := by rw [Nat.ble_eq]; exact h
/-! Small laws. -/
theorem ltFC {n : Nat} : decide (Int.ofNat n < (n : Int)) = false := decide_eq_false (by simp only [Int.ofNat_eq_natCast]; omega)
theorem ltTC {j n : Nat} (h : j < n) : decide (Int.ofNat j < (n : Int)) = true := decide_eq_true (by simp only [Int.ofNat_eq_natCast]; omega)
theorem VAll.ite {α : Type} {Q : α → List (Option AO) → Nat → Prop} {b : Bool} {x y : VT α} (h1 : b = true → VAll Q x) (h2 : b = false → VAll Q y) : VAll Q (.ite b x y) := ⟨⟨fun h => (h1 h).out, fun h => (h2 h).out⟩⟩
theorem wk_u8 {a b : Int} (h : a = b) : Wk (.v (.int .u8 a)) (.v (.int .u8 b)) := by subst h; exact Wk.refl _
theorem ba_toList (s : ByteArray) : s.toList = s.data.toList := ByteArray.toList_eq s
theorem ba_size (s : ByteArray) : s.data.toList.length = s.size := rfl
theorem extract_eq (s : ByteArray) (i j : Nat) (hj : j ≤ s.size) : (s.extract i j).data.toList = (s.data.toList.drop i).take (j - i) := by
  rw [ByteArray.data_extract, Array.toList_extract, List.extract_eq_take_drop]
end Go.Proofs.YtpijbbobejeemaaGreatDoor.Kit

/- Functions that hand back a value and leave what was there as it was: contracts from the library's laws. -/
set_option linter.unusedVariables false
set_option linter.unusedSimpArgs false
namespace Go.Proofs.YtpijbbobejeemaaGreatDoor.Kit
open Go Go.RowKit Go.Proofs.YtpijbbobejeemaaGreatDoor.Eng
noncomputable section
def Stays (W w : World) : Prop := ∀ (b : Nat) (o : Obj), W.heap[b]? = some o → w.heap[b]? = some o
theorem Stays.cell {W w : World} (h : Stays W w) {a : Addr} {v : Value} (hv : W.cell? a = some v) : w.cell? a = some v := cell_of_block h a v hv
theorem Stays.tab {W w : World} (h : Stays W w) {P : Program} {n : String} {k : IntKind} {zs : List Int} (ht : Lib.TabIs P W n k zs) : Lib.TabIs P w n k zs := by
  unfold Lib.TabIs World.var? at *
  cases hg : P.globalNamed n with
  | none => rw [hg] at ht; cases ht
  | some g =>
    rw [hg] at ht
    simp only [Option.bind_some] at ht ⊢
    cases hb : W.heap[g]? with
    | none => rw [hb] at ht; cases ht
    | some o => rw [hb] at ht; rw [h _ _ hb]; exact ht
def vC {π : Type} (get : List AV → Option π) (pre : π → Prop) (val : π → AV) : List AV → Option (AP AV) :=
  fun args => match get args with
  | some p => some (.need (pre p) (.ret (val p)))
  | none => some (.fail "arguments")
theorem vC_ok {W : World} {F : HP} (hF : OldOK W F) {f : FuncId} {π : Type} {get : List AV → Option π} {pre : π → Prop} {val : π → AV} (args : π → List Value) (res : π → Value)
    (hg : ∀ A p, get A = some p → A = vmap (args p)) (hv : ∀ p N, VR N (val p) (res p))
    (h : ∀ p, pre p → ∀ w, Stays W w → Calls Tryz.prog f (args p).toArray w fun e w' => e = .returned (res p) ∧ Below w.heap.size w w') : C1OK Tryz.prog F f (vC get pre val) := by
  intro st W0 N h0 w A vargs v h' n n' lg lg' c q hp he hc r ha hf
  unfold vC at hp
  split at hp
  · rename_i p hg1
    cases hp
    obtain ⟨c1, e1, rfl⟩ := run_need he
    obtain ⟨rfl, rfl, rfl⟩ := inv_ret e1
    obtain ⟨hpre, hc1⟩ := (Cnd.and_iff _ _).1 hc
    have hA := hg _ _ hg1
    subst hA
    have : vargs = (args p).toArray := by
      have := ha.of_vmap
      rw [← this]
    subst this
    obtain ⟨D0, D, h1, h2, h3⟩ := r.sat
    refine (h p hpre w (hF D0 w h1)).mono ?_
    rintro e w' ⟨rfl, hb⟩
    exact ⟨_, N, rfl, r.below hb, hv p N, fun _ _ => rfl⟩
  · cases hp
    cases he
def g1s : List AV → Option ByteArray
  | [.v (.string s)] => some s
  | _ => none
def g2s : List AV → Option (ByteArray × ByteArray)
  | [.v (.string s), .v (.string t)] => some (s, t)
  | _ => none
theorem g1s_spec (A : List AV) (p : ByteArray) (h : g1s A = some p) : A = vmap [.string p] := by
  unfold g1s at h
  split at h
  · cases h; rfl
  · cases h
theorem g2s_spec (A : List AV) (p : ByteArray × ByteArray) (h : g2s A = some p) : A = vmap [.string p.1, .string p.2] := by
  unfold g2s at h
  split at h
  · cases h; rfl
  · cases h
theorem vr_v (N : Names) (x : Value) : VR N (.v x) x := VR_v.2 rfl
/-! Slices of our own memory that are read. -/
theorem rep_span {W0 w : World} {N : Names} {F : HP} {h : T} (r : Rep W0 N F h w) {i off len : Nat} {cap : Cp} {cs : List AV} {e : TypeId} {y : Value} (hi : h.find i = some (.cells cs e)) (hy : VR N (.slice i off len 1 cap) y) :
    ∃ b x c, y = .slice (some ⟨b, x, none⟩) len c ∧ len ≤ c ∧ b < w.heap.size ∧ ∀ (j : Nat) (a : AV), j < len → cs[off + j]? = some a → ∃ v, w.cell? ⟨b, x + j, none⟩ = some v ∧ VR N a v := by
  obtain ⟨D, hO⟩ := r.obj hi
  obtain ⟨l, arr, fz, h1, h2, h3, h4, h5, h6, h7, h8⟩ := hO
  simp only [VR] at hy
  obtain ⟨l', x, c, q1, q2, q3, q4, q5, q6⟩ := hy
  rw [h1] at q1
  cases q1
  refine ⟨l.blk, x, c, q2, q6, (Array.getElem?_eq_some_iff.1 h3).1, fun j a hj ha => ?_⟩
  rcases q3 with rfl | rfl
  · obtain ⟨v, hv, hV⟩ := h7.get ha
    refine ⟨v, ?_, hV⟩
    have hlt : off + j < cs.length := (List.getElem?_eq_some_iff.1 ha).1
    rw [List.getElem?_take_of_lt hlt, List.getElem?_drop] at hv
    simp only [World.cell?, h3]
    rw [← Nat.add_assoc] at hv
    simpa using hv
  · omega
def strsOf (l : List AV) : List ByteArray := l.map AV.strOf
def rowStrC (pre : List ByteArray → ByteArray → Prop) (val : List ByteArray → ByteArray → AV) : List AV → Option (AP AV) := fun args => match args with
  | [.slice i off len sz _, .v (.string t)] => some (.read i fun o => match o with
    | .cells cs _ => .need (sz = 1 ∧ List.take len (List.drop off cs) = (strsOf (List.take len (List.drop off cs))).map sv ∧ (strsOf (List.take len (List.drop off cs))).length = len) (.need (pre (strsOf (List.take len (List.drop off cs))) t) (.ret (val (strsOf (List.take len (List.drop off cs))) t)))
    | _ => .fail "row")
  | _ => some (.fail "row")
theorem rowStrC_ok {W : World} {F : HP} (hF : OldOK W F) {f : FuncId} {pre : List ByteArray → ByteArray → Prop} {val : List ByteArray → ByteArray → AV} (res : List ByteArray → ByteArray → Value) (hv : ∀ xs t N, VR N (val xs t) (res xs t))
    (hc : ∀ xs t, pre xs t → ∀ w, Stays W w → ∀ bk o c, (∀ (j : Nat) x, xs[j]? = some x → w.cell? ⟨bk, o + j, none⟩ = some (.string x)) → bk < w.heap.size → xs.length ≤ c →
      Calls Tryz.prog f #[.slice (some ⟨bk, o, none⟩) xs.length c, .string t] w fun e w' => e = .returned (res xs t) ∧ Below w.heap.size w w') : C1OK Tryz.prog F f (rowStrC pre val) := by
  intro st W0 N h0 w A vargs v h' n n' lg lg' c q hp he hcc r ha hf
  unfold rowStrC at hp
  split at hp
  · rename_i i off len sz cap t
    cases hp
    obtain ⟨o, ho, e1⟩ := run_read he
    cases o with
    | cells cs e =>
      simp only at e1
      obtain ⟨c1, e2, rfl⟩ := run_need e1
      obtain ⟨⟨rfl, hrow, hlen⟩, hc1⟩ := (Cnd.and_iff _ _).1 hcc
      obtain ⟨c2, e3, rfl⟩ := run_need e2
      obtain ⟨hpre, hc2⟩ := (Cnd.and_iff _ _).1 hc1
      obtain ⟨rfl, rfl, rfl⟩ := inv_ret e3
      generalize hxs : strsOf (List.take len (List.drop off cs)) = xs at *
      obtain ⟨y1, r1, h1, ⟨y2, r2, h2, rfl, rfl⟩, hl⟩ := (by simpa only [VRs] using ha : ∃ y r, VR N (.slice i off len 1 cap) y ∧ (∃ y2 r2, VR N (.v (.string t)) y2 ∧ r2 = [] ∧ r = y2 :: r2) ∧ vargs.toList = y :: r)
      have h2 := VR_v.1 h2
      subst h2
      obtain ⟨b, x, cc, rfl, k2, k3, k4⟩ := rep_span r ho h1
      have hva : vargs = #[.slice (some ⟨b, x, none⟩) xs.length cc, .string t] := by
        apply Array.ext'
        rw [hl, hlen]
      subst hva
      obtain ⟨D0, D, p1, p2, p3⟩ := r.sat
      refine (hc xs t hpre w (hF D0 w p1) b x cc (fun j z hz => ?_) k3 (by omega)).mono ?_
      · have hj : j < len := by rw [← hlen]; exact (List.getElem?_eq_some_iff.1 hz).1
        have : (List.take len (List.drop off cs))[j]? = some (sv z) := by rw [hrow, List.getElem?_map, hz]; rfl
        rw [List.getElem?_take_of_lt hj, List.getElem?_drop] at this
        obtain ⟨v, hv1, hv2⟩ := k4 j _ hj this
        rw [hv1]
        exact congrArg some (VR_v.1 hv2)
      · rintro e w' ⟨rfl, hb⟩
        exact ⟨_, N, rfl, r.below hb, hv xs t N, fun _ _ => rfl⟩
    | _ => cases e1
  · cases hp
    cases he
def u8V (z : Int) : AV := .v (.int .u8 z)
theorem rep_bytes {W0 w : World} {N : Names} {F : HP} {h : T} (r : Rep W0 N F h w) {i off n : Nat} {cap : Cp} {cs : List AV} {e : TypeId} {y : Value} {xs : List Int} (hi : h.find i = some (.cells cs e)) (hy : VR N (.slice i off n 1 cap) y)
    (hx : List.take n (List.drop off cs) = xs.map u8V) (hn : xs.length = n) :
    ∃ b x c, y = .slice (some ⟨b, x, none⟩) n c ∧ n ≤ c ∧ b < w.heap.size ∧ ∀ j, j < n → w.cell? ((⟨b, x, none⟩ : Addr).add j) = some (.int .u8 (xs.getD j 0)) := by
  obtain ⟨b, x, c, rfl, k2, k3, k4⟩ := rep_span r hi hy
  refine ⟨b, x, c, rfl, k2, k3, fun j hj => ?_⟩
  have h1 : (List.take n (List.drop off cs))[j]? = some (u8V (xs.getD j 0)) := by
    rw [hx, List.getElem?_map, List.getD_eq_getElem?_getD]
    cases hg : xs[j]? with
    | none => have := List.getElem?_eq_none_iff.1 hg; omega
    | some z => rfl
  rw [List.getElem?_take_of_lt hj, List.getElem?_drop] at h1
  obtain ⟨v, hv1, hv2⟩ := k4 j _ hj h1
  rw [add_lit, hv1]
  exact congrArg some (VR_v.1 hv2)
theorem bytesOf_spec : ∀ {l : List AV} {xs : List Int}, bytesOf l = some xs → l = xs.map u8V
  | [], xs, h => by simp only [bytesOf, Option.some.injEq] at h; subst h; rfl
  | a :: l, xs, h => by
    unfold bytesOf at h
    split at h
    · rename_i heq; cases heq
    · rename_i n r heq
      cases heq
      split at h
      · rename_i t ht
        cases h
        rw [bytesOf_spec ht]
        rfl
      · cases h
    · cases h
theorem isByte_spec {z : Int} (h : isByte z = true) : 0 ≤ z ∧ z < 256 := by
  unfold isByte at h
  split at h
  · rename_i k
    rw [Nat.blt_eq] at h
    exact ⟨by simp, by simp only [Int.ofNat_eq_natCast]; omega⟩
  · cases h
def row2K (pre : List Int → List Int → Bool) (val : List Int → List Int → AV) : List AV → Option (AP AV) := fun args => match args with
  | [.slice i off n sz _, .slice j off2 k sz2 _] => some (.read i fun o => match o with
    | .cells cs _ => .read j fun o2 => match o2 with
      | .cells ds _ => (match bytesOf (List.take n (List.drop off cs)), bytesOf (List.take k (List.drop off2 ds)) with
        | some xs, some ys => (match Nat.beq sz 1 && (Nat.beq sz2 1 && (Nat.beq xs.length n && (Nat.beq ys.length k && (xs.all isByte && (ys.all isByte && pre xs ys))))) with
          | true => .ret (val xs ys)
          | false => .fail "bytes")
        | _, _ => .fail "bytes")
      | _ => .fail "bytes"
    | _ => .fail "bytes")
  | _ => some (.fail "bytes")
theorem row2K_ok {W : World} {F : HP} (hF : OldOK W F) {f : FuncId} {pre : List Int → List Int → Bool} {val : List Int → List Int → AV} (res : List Int → List Int → Value) (hv : ∀ xs ys N, VR N (val xs ys) (res xs ys))
    (hc : ∀ xs ys, pre xs ys = true → (∀ z ∈ xs, 0 ≤ z ∧ z < 256) → (∀ z ∈ ys, 0 ≤ z ∧ z < 256) → ∀ w, Stays W w → ∀ b x c b2 x2 c2, xs.length ≤ c → ys.length ≤ c2 →
      (∀ j, j < xs.length → w.cell? ((⟨b, x, none⟩ : Addr).add j) = some (.int .u8 (xs.getD j 0))) → (∀ j, j < ys.length → w.cell? ((⟨b2, x2, none⟩ : Addr).add j) = some (.int .u8 (ys.getD j 0))) →
      Calls Tryz.prog f #[.slice (some ⟨b, x, none⟩) xs.length c, .slice (some ⟨b2, x2, none⟩) ys.length c2] w fun e w' => e = .returned (res xs ys) ∧ Below w.heap.size w w') : C1OK Tryz.prog F f (row2K pre val) := by
  intro st W0 N h0 w A vargs v h' n n' lg lg' c q hp he hcc r ha hf
  unfold row2K at hp
  split at hp
  · rename_i i off m sz cap j off2 k sz2 cap2
    cases hp
    obtain ⟨o, ho, e1⟩ := run_read he
    cases o with
    | cells cs e =>
      obtain ⟨o2, ho2, e2⟩ := run_read e1
      cases o2 with
      | cells ds e' =>
        simp only at e2
        split at e2
        · rename_i xs ys hx hy
          split at e2
          · rename_i hg
            obtain ⟨rfl, rfl, rfl⟩ := inv_ret e2
            simp only [Bool.and_eq_true] at hg
            obtain ⟨g1, g2, g3, g4, g5, g6, g7⟩ := hg
            have g1 := Nat.eq_of_beq_eq_true g1
            have g2 := Nat.eq_of_beq_eq_true g2
            have g3 := Nat.eq_of_beq_eq_true g3
            have g4 := Nat.eq_of_beq_eq_true g4
            subst g1 g2 g3 g4
            obtain ⟨y1, r1, h1, ⟨y2, r2, h2, rfl, rfl⟩, hl⟩ := (by simpa only [VRs] using ha : ∃ y r, VR N (.slice i off xs.length 1 cap) y ∧ (∃ y2 r2, VR N (.slice j off2 ys.length 1 cap2) y2 ∧ r2 = [] ∧ r = y2 :: r2) ∧ vargs.toList = y :: r)
            obtain ⟨b, x, cc, rfl, k2, k3, k4⟩ := rep_bytes r ho h1 (bytesOf_spec hx) rfl
            obtain ⟨b2, x2, cc2, rfl, k5, k6, k7⟩ := rep_bytes r ho2 h2 (bytesOf_spec hy) rfl
            have hva : vargs = #[.slice (some ⟨b, x, none⟩) xs.length cc, .slice (some ⟨b2, x2, none⟩) ys.length cc2] := by
              apply Array.ext'
              rw [hl]
            subst hva
            obtain ⟨D0, D, p1, p2, p3⟩ := r.sat
            refine (hc xs ys g7 (fun z hz => isByte_spec (List.all_eq_true.1 g5 z hz)) (fun z hz => isByte_spec (List.all_eq_true.1 g6 z hz)) w (hF D0 w p1) b x cc b2 x2 cc2 k2 k5 k4 k7).mono ?_
            rintro e w' ⟨rfl, hb⟩
            exact ⟨_, N, rfl, r.below hb, hv xs ys N, fun _ _ => rfl⟩
          · cases e2
        · cases e2
      | _ => cases e2
    | _ => cases e1
  · cases hp
    cases he
def kC {π : Type} (get : List AV → Option π) (pre : π → Bool) (val : π → AV) : List AV → Option (AP AV) :=
  fun args => match get args with
  | some p => (match pre p with
    | true => some (.ret (val p))
    | false => some (.fail "arguments"))
  | none => some (.fail "arguments")
theorem kC_ok {F : HP} {f : FuncId} {π : Type} {get : List AV → Option π} {pre : π → Bool} {pre' : π → Prop} {val : π → AV} (h : C1OK Tryz.prog F f (vC get pre' val)) (hp : ∀ p, pre p = true → pre' p) : C1OK Tryz.prog F f (kC get pre val) := by
  intro st W0 N h0 w A vargs v h' n n' lg lg' c q hq he hc r ha hf
  unfold kC at hq
  split at hq
  · rename_i p hg1
    split at hq
    · rename_i hpre
      cases hq
      obtain ⟨rfl, rfl, rfl⟩ := inv_ret he
      have hv : vC get pre' val A = some (.need (pre' p) (.ret (val p))) := by unfold vC; rw [hg1]
      exact h st W0 N _ w A vargs _ _ _ _ lg lg ((Cnd.p (pre' p)).and .t) _ hv rfl ((Cnd.and_iff _ _).2 ⟨hp p hpre, trivial⟩) r ha hf
    · cases hq
      cases he
  · cases hq
    cases he
def strsA : List AV → Option (List ByteArray)
  | [] => some []
  | .v (.string s) :: l => (match strsA l with
    | some r => some (s :: r)
    | none => none)
  | _ => none
def rowStrK (pre : List ByteArray → ByteArray → Bool) (val : List ByteArray → ByteArray → AV) : List AV → Option (AP AV) := fun args => match args with
  | [.slice i off len sz _, .v (.string t)] => some (.read i fun o => match o with
    | .cells cs _ => (match strsA (List.take len (List.drop off cs)) with
      | some xs => (match Nat.beq sz 1 && (Nat.beq xs.length len && pre xs t) with
        | true => .ret (val xs t)
        | false => .fail "row")
      | none => .fail "row")
    | _ => .fail "row")
  | _ => some (.fail "row")
theorem strsA_spec : ∀ {l : List AV} {xs : List ByteArray}, strsA l = some xs → l = xs.map sv ∧ xs = strsOf l
  | [], xs, h => by simp only [strsA, Option.some.injEq] at h; subst h; exact ⟨rfl, rfl⟩
  | a :: l, xs, h => by
    unfold strsA at h
    split at h
    · rename_i heq; cases heq
    · rename_i s r heq
      cases heq
      split at h
      · rename_i t ht
        cases h
        obtain ⟨q1, q2⟩ := strsA_spec ht
        refine ⟨by rw [List.map_cons, ← q1]; rfl, ?_⟩
        rw [strsOf, List.map_cons]
        exact congrArg (_ :: ·) q2
      · cases h
    · cases h
theorem rowStrK_ok {F : HP} {f : FuncId} {pre : List ByteArray → ByteArray → Bool} {pre' : List ByteArray → ByteArray → Prop} {val : List ByteArray → ByteArray → AV} (h : C1OK Tryz.prog F f (rowStrC pre' val)) (hp : ∀ xs t, pre xs t = true → pre' xs t) : C1OK Tryz.prog F f (rowStrK pre val) := by
  intro st W0 N h0 w A vargs v h' n n' lg lg' c q hq he hc r ha hf
  unfold rowStrK at hq
  split at hq
  · rename_i i off len sz cap t
    cases hq
    obtain ⟨o, ho, e1⟩ := run_read he
    cases o with
    | cells cs e =>
      simp only at e1
      split at e1
      · rename_i xs hx
        split at e1
        · rename_i hg
          obtain ⟨rfl, rfl, rfl⟩ := inv_ret e1
          simp only [Bool.and_eq_true] at hg
          obtain ⟨q1, q2⟩ := strsA_spec hx
          have g1 := Nat.eq_of_beq_eq_true hg.1
          have g2 := Nat.eq_of_beq_eq_true hg.2.1
          subst g1
          refine h st W0 N _ w [.slice i off len 1 cap, .v (.string t)] vargs (val xs t) _ _ _ lg ((i, false) :: lg) ((Cnd.p (1 = 1 ∧ List.take len (List.drop off cs) = (strsOf (List.take len (List.drop off cs))).map sv ∧ (strsOf (List.take len (List.drop off cs))).length = len)).and ((Cnd.p (pre' (strsOf (List.take len (List.drop off cs))) t)).and .t)) _ rfl ?_ ?_ r ha hf
          · simp only [AP.run, ho]
            rw [q2]
            rfl
          · rw [← q2]
            exact (Cnd.and_iff _ _).2 ⟨⟨rfl, q1, g2⟩, (Cnd.and_iff _ _).2 ⟨hp _ _ hg.2.2, trivial⟩⟩
        · cases e1
      · cases e1
    | _ => cases e1
  · cases hq
    cases he
end
end Go.Proofs.YtpijbbobejeemaaGreatDoor.Kit

/- Http: what the library's functions hand back, as contracts. -/
set_option linter.unusedVariables false
set_option linter.unusedSimpArgs false
set_option maxRecDepth 100000
namespace Go.Proofs.YtpijbbobejeemaaGreatDoor.Htp
open Go Go.RowKit Go.Proofs.YtpijbbobejeemaaGreatDoor.Eng Go.Proofs.YtpijbbobejeemaaGreatDoor.Kit
noncomputable section
theorem below_dn {B : Nat} {a w : World} (h : Below B a w) (q : Nat) : Below B a (w.drewN q) := ⟨h.os, h.tape, h.output, h.size, h.block⟩
structure LW (W : World) : Prop where
  maxLen : ∃ m, W.cell? ⟨0, 0, none⟩ = some (.int .i64 m)
  pows : Lib.TabIs Tryz.prog W "internal/strconv.uint64pow10" .u64 Lib.pow10Tab
def tB (l : List UInt8) : ByteArray := ⟨l.toArray⟩
theorem tB_data (l : List UInt8) : (tB l).data.toList = l := by simp [tB]
theorem tB_size (l : List UInt8) : (tB l).size = l.length := by simp [tB, ByteArray.size]
theorem bytes_ext {a b : ByteArray} (h : a.data.toList = b.data.toList) : a = b := by
  cases a; cases b; congr 1; exact Array.ext' h
theorem tB_self (s : ByteArray) : tB s.data.toList = s := bytes_ext (tB_data _)
def joinB (xs : List ByteArray) (sep : ByteArray) : ByteArray := tB (Lib.join (xs.map (·.data.toList)) sep.data.toList)
def cut1 (s t : ByteArray) : ByteArray := tB (Lib.cut s.data.toList t.data.toList).1
def cut2 (s t : ByteArray) : ByteArray := tB (Lib.cut s.data.toList t.data.toList).2.1
def cutK (s t : ByteArray) : Bool := (Lib.cut s.data.toList t.data.toList).2.2
def preB (s t : ByteArray) : ByteArray := tB (Lib.trimPrefix s.data.toList t.data.toList)
def preK (s t : ByteArray) : Bool := Lib.hasPrefix s.data.toList t.data.toList
def asciiB (s : ByteArray) : Prop := ∀ (j : Nat) b, s.data.toList[j]? = some b → b.toNat < 128
abbrev fJoin : Nat := 40
abbrev fCut : Nat := 45
abbrev fCutP : Nat := 43
variable {W : World} {F : HP}
def cJoin : List AV → Option (AP AV) := rowStrC (fun xs t => xs.length ≤ 140737488355328 ∧ (Lib.join (xs.map (·.data.toList)) t.data.toList).length ≤ 140737488355328) (fun xs t => sv (joinB xs t))
theorem cJoin_ok (hF : OldOK W F) : C1OK Tryz.prog F fJoin cJoin :=
  rowStrC_ok hF (fun xs t => .string (joinB xs t)) (fun xs t N => vr_v N _) fun xs t h w hw bk o c h1 h2 h3 => Tryz.strings_Join bk o c xs t w h1 h2 h.1 h3 h.2
theorem vr_t2 (N : Names) (a b : Value) : VR N (.tuple [.v a, .v b]) (.tuple #[a, b]) := by
  simp only [VR, VRs]
  exact ⟨[a, b], ⟨a, [b], rfl, ⟨b, [], rfl, rfl, rfl⟩, rfl⟩, rfl⟩
theorem vr_t3 (N : Names) (a b c : Value) : VR N (.tuple [.v a, .v b, .v c]) (.tuple #[a, b, c]) := by
  simp only [VR, VRs]
  exact ⟨[a, b, c], ⟨a, [b, c], rfl, ⟨b, [c], rfl, ⟨c, [], rfl, rfl, rfl⟩, rfl⟩, rfl⟩, rfl⟩
def cCut : List AV → Option (AP AV) := vC g2s (fun p => p.1.size < 4294967281) (fun p => .tuple [sv (cut1 p.1 p.2), sv (cut2 p.1 p.2), bv (cutK p.1 p.2)])
theorem cCut_ok (hW : LW W) (hF : OldOK W F) : C1OK Tryz.prog F fCut cCut :=
  vC_ok hF (fun p => [.string p.1, .string p.2]) (fun p => .tuple #[.string (cut1 p.1 p.2), .string (cut2 p.1 p.2), .bool (cutK p.1 p.2)]) g2s_spec (fun p N => vr_t3 N _ _ _) fun p hp w hw => by
    obtain ⟨m, hm⟩ := hW.maxLen
    exact (Tryz.strings_Cut p.1 p.2 m w hp (hw.cell hm)).mono fun e w' ⟨h1, k, h2⟩ => ⟨h1, by rw [h2]; exact below_dn (Below.refl _ _) k⟩
def cCutP : List AV → Option (AP AV) := vC g2s (fun _ => True) (fun p => .tuple [sv (preB p.1 p.2), bv (preK p.1 p.2)])
theorem cCutP_ok (hF : OldOK W F) : C1OK Tryz.prog F fCutP cCutP :=
  vC_ok hF (fun p => [.string p.1, .string p.2]) (fun p => .tuple #[.string (preB p.1 p.2), .bool (preK p.1 p.2)]) g2s_spec (fun p N => vr_t2 N _ _) fun p hp w hw =>
    (Tryz.strings_CutPrefix p.1 p.2 w).mono fun e w' ⟨h1, h2⟩ => ⟨h1, by rw [h2]; exact Below.refl _ _⟩
end
end Go.Proofs.YtpijbbobejeemaaGreatDoor.Htp

/- Http: base 64: runs. -/
set_option linter.unusedVariables false
set_option linter.unusedSimpArgs false
set_option maxRecDepth 100000
namespace Go.Proofs.YtpijbbobejeemaaGreatDoor.Htp
open Go Go.RowKit Go.Proofs.YtpijbbobejeemaaGreatDoor.Eng Go.Proofs.YtpijbbobejeemaaGreatDoor.Kit
noncomputable section
abbrev fEnc : Nat := 21
end
end Go.Proofs.YtpijbbobejeemaaGreatDoor.Htp

/- Http: base 64: what is written is read again. Plain laws. No program. -/
set_option linter.unusedVariables false
set_option linter.unusedSimpArgs false
namespace Go.Proofs.YtpijbbobejeemaaGreatDoor.Htp
def alpha : List UInt8 := [65,66,67,68,69,70,71,72,73,74,75,76,77,78,79,80,81,82,83,84,85,86,87,88,89,90,97,98,99,100,101,102,103,104,105,106,107,108,109,110,111,112,113,114,115,116,117,118,119,120,121,122,48,49,50,51,52,53,54,55,56,57,43,47]
def letter (k : Nat) : UInt8 := alpha.getD k 0
def n3 (a b c : UInt8) : Nat := a.toNat * 65536 + b.toNat * 256 + c.toNat
end Go.Proofs.YtpijbbobejeemaaGreatDoor.Htp

/- Http: base 64: what the loop and the function hand back. -/
set_option linter.unusedVariables false
set_option linter.unusedSimpArgs false
set_option maxRecDepth 100000
namespace Go.Proofs.YtpijbbobejeemaaGreatDoor.Htp
open Go Go.RowKit Go.Proofs.YtpijbbobejeemaaGreatDoor.Eng Go.Proofs.YtpijbbobejeemaaGreatDoor.Kit
theorem w_in {n : Nat} (h : n < 9223372036854775808) : IntKind.i64.wrap (Int.ofNat n) = Int.ofNat n := IntWalk.i64_in _ (by simp only [Int.ofNat_eq_natCast]; omega)
theorem w_mul {a b : Nat} (h : a * b < 9223372036854775808) : IntKind.i64.wrap (Int.ofNat a * Int.ofNat b) = Int.ofNat (a * b) := by
  have : Int.ofNat a * Int.ofNat b = Int.ofNat (a * b) := by simp
  rw [this, w_in h]
theorem w_add {a b : Nat} (h : a + b < 9223372036854775808) : IntKind.i64.wrap (Int.ofNat a + Int.ofNat b) = Int.ofNat (a + b) := by
  have : Int.ofNat a + Int.ofNat b = Int.ofNat (a + b) := by simp
  rw [this, w_in h]
theorem w_sub {a b : Nat} (h : b ≤ a) (h2 : a < 9223372036854775808) : IntKind.i64.wrap (Int.ofNat a - Int.ofNat b) = Int.ofNat (a - b) := by
  have : Int.ofNat a - Int.ofNat b = Int.ofNat (a - b) := by simp only [Int.ofNat_eq_natCast]; omega
  rw [this, w_in (by omega)]
theorem w_u8 (m : Nat) : IntKind.u8.wrap (Int.ofNat m) = ((UInt8.ofNat m).toNat : Int) := by
  rw [UInt8.toNat_ofNat']
  simp only [IntKind.wrap]
  simp [IntKind.bits, IntKind.signed]
/-! The loop's states. -/
theorem geF {a b : Nat} (h : a < b) : decide (Int.ofNat a ≥ Int.ofNat b) = false := decide_eq_false (by simp only [Int.ofNat_eq_natCast]; omega)
theorem geT {a b : Nat} (h : b ≤ a) : decide (Int.ofNat a ≥ Int.ofNat b) = true := decide_eq_true (by simp only [Int.ofNat_eq_natCast]; omega)
theorem ltF {a b : Nat} (h : b ≤ a) : decide (Int.ofNat a < Int.ofNat b) = false := decide_eq_false (by simp only [Int.ofNat_eq_natCast]; omega)
end Go.Proofs.YtpijbbobejeemaaGreatDoor.Htp

/- Http: the document's writing in base 64: runs. -/
set_option linter.unusedVariables false
set_option linter.unusedSimpArgs false
set_option maxRecDepth 100000
namespace Go.Proofs.YtpijbbobejeemaaGreatDoor.Htp
open Go Go.RowKit Go.Proofs.YtpijbbobejeemaaGreatDoor.Eng Go.Proofs.YtpijbbobejeemaaGreatDoor.Kit
noncomputable section
def hE (i : Nat) (a b c : UInt8) (n1 n2 n12 n u v x y z w : Nat) (two three : Bool) : ClaimT := hintL [(fEnc, 4, 3, hv (.lit true)), (fEnc, 6, 3, hv (byv a)), (fEnc, 6, 4, hv (iv (Int.ofNat a.toNat))), (fEnc, 6, 5, hv (iv (Int.ofNat n1))),
  (fEnc, 7, 1, hv (iv (Int.ofNat (i + 1)))), (fEnc, 7, 4, hv (.lit two)), (fEnc, 8, 3, hv (iv (Int.ofNat (i + 1)))), (fEnc, 8, 5, hv (byv b)), (fEnc, 8, 6, hv (iv (Int.ofNat b.toNat))), (fEnc, 8, 7, hv (iv (Int.ofNat n2))), (fEnc, 8, 8, hv (iv (Int.ofNat n12))),
  (fEnc, 9, 1, hv (iv (Int.ofNat (i + 2)))), (fEnc, 9, 4, hv (.lit three)), (fEnc, 10, 3, hv (iv (Int.ofNat (i + 2)))), (fEnc, 10, 5, hv (byv c)), (fEnc, 10, 6, hv (iv (Int.ofNat c.toNat))), (fEnc, 10, 7, hv (iv (Int.ofNat n))),
  (fEnc, 11, 3, hv (iv (Int.ofNat x))), (fEnc, 11, 4, h0v (byv (letter x))), (fEnc, 11, 7, hv (iv (Int.ofNat u))), (fEnc, 11, 8, hv (iv (Int.ofNat y))), (fEnc, 11, 9, h0v (byv (letter y))),
  (fEnc, 12, 1, hv (iv (Int.ofNat (i + 1)))), (fEnc, 12, 4, hv (.lit two)), (fEnc, 13, 3, hv (iv (Int.ofNat v))), (fEnc, 13, 4, hv (iv (Int.ofNat z))), (fEnc, 13, 5, h0v (byv (letter z))),
  (fEnc, 15, 1, hv (iv (Int.ofNat (i + 2)))), (fEnc, 15, 4, hv (.lit three)), (fEnc, 16, 3, hv (iv (Int.ofNat w))), (fEnc, 16, 4, h0v (byv (letter w))), (fEnc, 5, 1, hv (iv (Int.ofNat (i + 3))))]
def nmE (a b : Nat) : Nat → Nat := fun k => match Nat.beq k 1000 with
  | true => a
  | false => match Nat.beq k 1001 with
    | true => b
    | false => k
end
end Go.Proofs.YtpijbbobejeemaaGreatDoor.Htp

/- Http: the document's writing in base 64. -/
set_option linter.unusedVariables false
set_option linter.unusedSimpArgs false
set_option maxRecDepth 100000
namespace Go.Proofs.YtpijbbobejeemaaGreatDoor.Htp
open Go Go.RowKit Go.Proofs.YtpijbbobejeemaaGreatDoor.Eng Go.Proofs.YtpijbbobejeemaaGreatDoor.Kit
end Go.Proofs.YtpijbbobejeemaaGreatDoor.Htp

/- Http: base 64: the function. -/
set_option linter.unusedVariables false
set_option linter.unusedSimpArgs false
set_option maxRecDepth 100000
namespace Go.Proofs.YtpijbbobejeemaaGreatDoor.Htp
open Go Go.RowKit Go.Proofs.YtpijbbobejeemaaGreatDoor.Eng Go.Proofs.YtpijbbobejeemaaGreatDoor.Kit
end Go.Proofs.YtpijbbobejeemaaGreatDoor.Htp

/- Http: the document's examples, a closed run. -/
set_option linter.unusedVariables false
set_option linter.unusedSimpArgs false
namespace Go.Proofs.YtpijbbobejeemaaGreatDoor.Htp
open Go Go.RowKit Go.Proofs.YtpijbbobejeemaaGreatDoor.Eng Go.Proofs.YtpijbbobejeemaaGreatDoor.Kit
abbrev fSpeaks : Nat := 8
abbrev fBIndex : Nat := 49
abbrev fSIndex : Nat := 82
abbrev fLower : Nat := 58
section
variable {W : World} {F : HP}
def ixF (sub : List UInt8) : List UInt8 → Nat → Int
  | [], k => match sub with
    | [] => Int.ofNat k
    | _ :: _ => -1
  | b :: l, k => match sub.isPrefixOf (b :: l) with
    | true => Int.ofNat k
    | false => ixF sub l (k + 1)
theorem ixF_eq (sub : List UInt8) : ∀ (l : List UInt8) (k : Nat), ixF sub l k = if Lib.index l sub = -1 then -1 else Lib.index l sub + k
  | [], k => by
    cases sub with
    | nil => simp [ixF, Lib.index]
    | cons a r => simp [ixF, Lib.index]
  | b :: l, k => by
    rw [ixF, Lib.index]
    cases h : sub.isPrefixOf (b :: l) with
    | true => simp
    | false =>
      have hg := Lib.index_ge l sub
      rw [ixF_eq sub l (k + 1)]
      simp only [Bool.false_eq_true, if_false]
      by_cases h1 : Lib.index l sub = -1
      · simp [h1]
      · rw [if_neg h1]
        have h2 : (Lib.index l sub == -1) = false := by simpa using h1
        rw [h2]
        simp only [Bool.false_eq_true, if_false]
        rw [if_neg (by omega)]
        omega
theorem ixF_index (sub l : List UInt8) : ixF sub l 0 = Lib.index l sub := by
  rw [ixF_eq]
  split
  · rename_i h; rw [h]
  · simp
def cIdxS : List AV → Option (AP AV) := vC g2s (fun p => p.1.size < 4294967281) (fun p => iv (ixF p.2.data.toList p.1.data.toList 0))
theorem cIdxS_ok (hW : LW W) (hF : OldOK W F) : C1OK Tryz.prog F fSIndex cIdxS :=
  vC_ok hF (fun p => [.string p.1, .string p.2]) (fun p => .int .i64 (ixF p.2.data.toList p.1.data.toList 0)) g2s_spec (fun p N => vr_v N _) fun p hp w hw => by
    obtain ⟨m, hm⟩ := hW.maxLen
    exact (Tryz.strings_Index p.1 p.2 m w hp (hw.cell hm)).mono fun e w' ⟨h1, h2⟩ => ⟨by rw [h1, ixF_index], by rw [h2]; exact Below.refl _ _⟩
noncomputable def kIdxS : List AV → Option (AP AV) := kC g2s (fun p => Nat.blt p.1.size 4294967281) (fun p => iv (ixF p.2.data.toList p.1.data.toList 0))
theorem cIdxL_ok (hW : LW W) (hF : OldOK W F) : C1OK Tryz.prog F 103 cIdxS :=
  vC_ok hF (fun p => [.string p.1, .string p.2]) (fun p => .int .i64 (ixF p.2.data.toList p.1.data.toList 0)) g2s_spec (fun p N => vr_v N _) fun p hp w hw => by
    obtain ⟨m, hm⟩ := hW.maxLen
    exact (Tryz.stringslite_Index p.1 p.2 m w hp (hw.cell hm)).mono fun e w' ⟨h1, h2⟩ => ⟨by rw [h1, ixF_index], by rw [h2]; exact Below.refl _ _⟩
theorem kIdxL_ok (hW : LW W) (hF : OldOK W F) : C1OK Tryz.prog F 103 kIdxS := kC_ok (cIdxL_ok hW hF) fun p hp => by rw [Nat.blt_eq] at hp; exact hp
theorem kIdxS_ok (hW : LW W) (hF : OldOK W F) : C1OK Tryz.prog F fSIndex kIdxS := kC_ok (cIdxS_ok hW hF) fun p hp => by rw [Nat.blt_eq] at hp; exact hp
def lowB (s : ByteArray) : ByteArray := tB (Lib.toLowerA s.data.toList)
def cLow : List AV → Option (AP AV) := vC g1s (fun s => s.size ≤ 140737488355328 ∧ asciiB s) (fun s => sv (lowB s))
theorem cLow_ok (hF : OldOK W F) : C1OK Tryz.prog F fLower cLow :=
  vC_ok hF (fun s => [.string s]) (fun s => .string (lowB s)) g1s_spec (fun p N => vr_v N _) fun s hp w hw => Tryz.strings_ToLower_ascii s w hp.1 hp.2
def asciiK (s : ByteArray) : Bool := s.data.toList.all fun b => Nat.blt b.toNat 128
theorem asciiK_spec {s : ByteArray} (h : asciiK s = true) : asciiB s := fun j b hb => by
  have := List.all_eq_true.1 h b (List.mem_of_getElem? hb)
  rwa [Nat.blt_eq] at this
noncomputable def kLow : List AV → Option (AP AV) := kC g1s (fun s => Nat.ble s.size 140737488355328 && asciiK s) (fun s => sv (lowB s))
theorem kLow_ok (hF : OldOK W F) : C1OK Tryz.prog F fLower kLow := kC_ok (cLow_ok hF) fun s hp => by
  rw [Bool.and_eq_true, Nat.ble_eq] at hp
  exact ⟨hp.1, asciiK_spec hp.2⟩
noncomputable def kJoin : List AV → Option (AP AV) := rowStrK (fun xs t => Nat.ble xs.length 140737488355328 && Nat.ble (Lib.join (xs.map (·.data.toList)) t.data.toList).length 140737488355328) (fun xs t => sv (joinB xs t))
theorem kJoin_ok (hF : OldOK W F) : C1OK Tryz.prog F fJoin kJoin := rowStrK_ok (cJoin_ok hF) fun xs t hp => by
  rw [Bool.and_eq_true, Nat.ble_eq, Nat.ble_eq] at hp
  exact hp
noncomputable def kBIndex : List AV → Option (AP AV) := row2K (fun xs ys => Nat.blt xs.length 4294967281 && Nat.ble ys.length 9223372036854775807) (fun xs ys => iv (ixF (Lib.bytesOf ys) (Lib.bytesOf xs) 0))
theorem kBIndex_ok (hW : LW W) (hF : OldOK W F) : C1OK Tryz.prog F fBIndex kBIndex :=
  row2K_ok hF (fun xs ys => .int .i64 (ixF (Lib.bytesOf ys) (Lib.bytesOf xs) 0)) (fun xs ys N => vr_v N _) fun xs ys hp hx hy w hw b x c b2 x2 c2 l1 l2 h1 h2 => by
    obtain ⟨m, hm⟩ := hW.maxLen
    rw [Bool.and_eq_true, Nat.blt_eq, Nat.ble_eq] at hp
    exact (Tryz.bytes_Index_at ⟨b, x, none⟩ ⟨b2, x2, none⟩ xs.length c ys.length c2 xs ys m w rfl rfl hx hy h1 h2 l1 hp.1 hp.2 (hw.cell hm)).mono fun e w' ⟨q1, k, q2⟩ => ⟨by rw [q1, ixF_index], by rw [q2]; exact below_dn (Below.refl _ _) k⟩
theorem run_same {P : Program} {f : FuncId} {fn : Func} (hf : P.funcs[f]? = some fn) (hname : (fn.name == "runtime.NumGoroutine") = false)
    (hb : fn.body.isNone = true) (hn : (Extern.findNext fn).isNone = true) (he : Extern.find fn = some Extern.AbiNoEscape.same) (v : Value) (w : World) :
    (callFunc f #[v]).run P w = .ok (.value v) w := by
  rw [run_callFunc_extern hf hname hb (by simpa using hn) he]
  rfl
def cfg : Cfg := { strs := [], ints := [], same := [128], clone := [], laid := [(4, Lib.pow10Tab.map (Value.int .u64))] }
theorem cfg_ok : CfgOk Tryz.prog cfg where
  strs := fun x hx => by cases hx
  ints := fun x hx => by cases hx
  same := fun x hx => by
    obtain rfl := List.mem_singleton.1 hx
    exact run_same Tryz.func128 (by kernel_rfl) (by kernel_rfl) (by kernel_rfl) (by kernel_rfl)
  clone := fun x hx => by cases hx
theorem cfg_laid (hW : LW W) {w : World} (hw : Stays W w) : LaidOk cfg w := by
  intro x hx j v hj
  obtain rfl := List.mem_singleton.1 hx
  have ht := hw.tab hW.pows
  have hlt : j < Lib.pow10Tab.length := by
    have := (List.getElem?_eq_some_iff.1 hj).1
    simpa using this
  have := Lib.TabIs.cell ht (g := 4) (by kernel_rfl) j hlt
  rw [this]
  rw [List.getElem?_map] at hj
  cases hg : Lib.pow10Tab[j]? with
  | none => rw [hg] at hj; cases hj
  | some z =>
    rw [hg] at hj
    cases hj
    simp [List.getD_eq_getElem?_getD, hg]
noncomputable def clSp : ConL := [(fBIndex, kBIndex), (fSIndex, kIdxS), (103, kIdxS), (fLower, kLow), (fJoin, kJoin)]
theorem clSp_ok (hW : LW W) (hF : OldOK W F) : ∀ x ∈ clSp, C1OK Tryz.prog F x.1 x.2 :=
  con_cons (kBIndex_ok hW hF) (con_cons (kIdxS_ok hW hF) (con_cons (kIdxL_ok hW hF) (con_cons (kLow_ok hF) (con_cons (kJoin_ok hF) noC))))
set_option maxRecDepth 1000000 in
theorem speaks_calls (hW : LW W) {w : World} (hw : Stays W w) : Calls Tryz.prog fSpeaks (List.toArray []) w fun e w' => e = .returned (.bool true) ∧ Below w.heap.size w w' :=
  closed_callC (cl := clSp) (args := []) cfg_ok (by kernel_rfl) (fuel := 100000) (fun w => by kernel_rfl) (cfg_laid hW hw) (clSp_ok hW (fun D w' hF b o hv => old_here w D w' hF b o (hw b o hv)))
def gN : List AV → Option Unit
  | [] => some ()
  | _ => none
def cSpk : List AV → Option (AP AV) := vC gN (fun _ => True) (fun _ => bv true)
theorem cSpk_ok (hW : LW W) (hF : OldOK W F) : C1OK Tryz.prog F fSpeaks cSpk :=
  vC_ok hF (fun _ => []) (fun _ => .bool true) (fun A p h => by
    unfold gN at h
    split at h
    · rfl
    · cases h) (fun p N => vr_v N _) fun p _ w hw => speaks_calls hW hw
end
end Go.Proofs.YtpijbbobejeemaaGreatDoor.Htp

/- Http: HttpLets: runs. -/
set_option linter.unusedVariables false
set_option linter.unusedSimpArgs false
set_option maxRecDepth 100000
namespace Go.Proofs.YtpijbbobejeemaaGreatDoor.Htp
open Go Go.RowKit Go.Proofs.YtpijbbobejeemaaGreatDoor.Eng Go.Proofs.YtpijbbobejeemaaGreatDoor.Kit
noncomputable section
def gB : List AV → AP Unit := fun _ => .ret ()
def nmEn (a : Nat) : Nat → Nat := fun k => match Nat.beq k 1000 with
  | true => a
  | false => k
end
end Go.Proofs.YtpijbbobejeemaaGreatDoor.Htp

/- Http: HttpLets. -/
set_option linter.unusedVariables false
set_option linter.unusedSimpArgs false
set_option maxRecDepth 100000
namespace Go.Proofs.YtpijbbobejeemaaGreatDoor.Htp
open Go Go.RowKit Go.Proofs.YtpijbbobejeemaaGreatDoor.Eng Go.Proofs.YtpijbbobejeemaaGreatDoor.Kit
theorem index_first (c : UInt8) : ∀ (u v : List UInt8), c ∉ u → Lib.index (u ++ c :: v) [c] = u.length
  | [], v, _ => by simp [Lib.index, List.isPrefixOf]
  | x :: u, v, h => by
    have hx : (c == x) = false := beq_eq_false_iff_ne.2 (fun e => h (by subst e; exact List.mem_cons_self))
    have ih := index_first c u v (fun e => h (List.mem_cons_of_mem _ e))
    rw [List.cons_append, Lib.index]
    have hp : [c].isPrefixOf (x :: (u ++ c :: v)) = false := by simp [List.isPrefixOf, hx]
    rw [hp]
    simp only [Bool.false_eq_true, if_false]
    rw [ih]
    have h2 : (((u.length : Nat) : Int) == -1) = false := by rw [beq_eq_false_iff_ne]; omega
    rw [h2]
    simp
theorem cut_first (c : UInt8) (u v : List UInt8) (h : c ∉ u) : Lib.cut (u ++ c :: v) [c] = (u, v, true) := by
  unfold Lib.cut
  rw [index_first c u v h, if_pos (by omega)]
  simp
/-! The loop over the user's name. -/
theorem gB_ro : ∀ args, RO (gB args) := fun _ => RO.ret _
end Go.Proofs.YtpijbbobejeemaaGreatDoor.Htp

/- Http: texts cut into pieces, escapes, base 64: plain laws. No program. -/
set_option linter.unusedVariables false
set_option linter.unusedSimpArgs false
namespace Go.Proofs.YtpijbbobejeemaaGreatDoor.Htp
def cutL (x : UInt8) : List UInt8 → List (List UInt8)
  | [] => [[]]
  | c :: l => if c = x then [] :: cutL x l else match cutL x l with
    | [] => [[c]]
    | u :: r => (c :: u) :: r
theorem cutL_ne (x : UInt8) : ∀ l, cutL x l ≠ []
  | [] => by simp [cutL]
  | c :: l => by
    rw [cutL]
    by_cases h : c = x
    · simp [h]
    · rw [if_neg h]
      split <;> simp
theorem cutL_hit (x : UInt8) (l : List UInt8) : cutL x (x :: l) = [] :: cutL x l := by rw [cutL, if_pos rfl]
theorem cutL_miss {x c : UInt8} (h : c ≠ x) (l : List UInt8) : ∃ u r, cutL x l = u :: r ∧ cutL x (c :: l) = (c :: u) :: r := by
  cases e : cutL x l with
  | nil => exact absurd e (cutL_ne x l)
  | cons u r => exact ⟨u, r, rfl, by rw [cutL, if_neg h, e]⟩
def hexV (c : UInt8) : Option Nat :=
  if 48 ≤ c.toNat ∧ c.toNat ≤ 57 then some (c.toNat - 48)
  else if 97 ≤ c.toNat ∧ c.toNat ≤ 102 then some (c.toNat - 97 + 10)
  else if 65 ≤ c.toNat ∧ c.toNat ≤ 70 then some (c.toNat - 65 + 10)
  else none
def hex2 (a b : UInt8) : Option Nat := match hexV a, hexV b with
  | some x, some y => some (x * 16 + y)
  | _, _ => none
def pcs : List (List UInt8) → Option (List UInt8)
  | [] => some []
  | (a :: b :: p) :: r => match hex2 a b, pcs r with
    | some n, some u => some (UInt8.ofNat n :: (p ++ u))
    | _, _ => none
  | _ :: _ => none
def unesc (l : List UInt8) : Option (List UInt8) := match cutL 37 l with
  | [] => none
  | u :: r => (pcs r).map (u ++ ·)
def unescs : List (List UInt8) → Option (List (List UInt8))
  | [] => some []
  | p :: r => match unesc p, unescs r with
    | some u, some v => some (u :: v)
    | _, _ => none
def ahead : List UInt8 → List UInt8
  | [] => []
  | c :: l => if c = 63 then [] else c :: ahead l
def pathL : List UInt8 → Option (List (List UInt8))
  | 47 :: l => unescs (cutL 47 (ahead l))
  | _ => none
def esc2 : List UInt8 → Option (Nat × List UInt8)
  | a :: b :: l => match hex2 a b with
    | some v => some (v, l)
    | none => none
  | _ => none
def rpath : Nat → List UInt8 → List UInt8 → Option (List (List UInt8))
  | 0, _, _ => none
  | _ + 1, [], part => some [part]
  | n + 1, c :: l, part =>
    if c = 63 then some [part]
    else if c = 47 then (rpath n l []).map (part :: ·)
    else if c = 37 then match esc2 l with
      | some q => rpath n q.2 (part ++ [UInt8.ofNat q.1])
      | none => none
    else rpath n l (part ++ [c])
def rpathL : List UInt8 → Option (List (List UInt8))
  | 47 :: l => rpath (l.length + 1) l []
  | _ => none
/-! They are one. -/
theorem unesc_nil : unesc [] = some [] := rfl
theorem unesc_plain {c : UInt8} (h : c ≠ 37) (l : List UInt8) : unesc (c :: l) = (unesc l).map (c :: ·) := by
  obtain ⟨u, r, e1, e2⟩ := cutL_miss h l
  rw [unesc, unesc, e1, e2]
  simp only
  cases pcs r <;> rfl
theorem hexV_no {c : UInt8} (h : c = 37 ∨ c = 47 ∨ c = 63) : hexV c = none := by
  rcases h with rfl | rfl | rfl <;> decide
theorem hex2_no {a b : UInt8} (h : hexV a = none ∨ hexV b = none) : hex2 a b = none := by
  unfold hex2
  rcases h with h | h
  · rw [h]
  · rw [h]; cases hexV a <;> rfl
theorem unesc_esc (a b : UInt8) (l : List UInt8) : unesc (37 :: a :: b :: l) = match hex2 a b with
    | some v => (unesc l).map (UInt8.ofNat v :: ·)
    | none => none := by
  rw [unesc, cutL_hit]
  simp only
  by_cases ha : a = 37
  · subst ha
    rw [cutL_hit, hex2_no (.inl (hexV_no (.inl rfl))), pcs]
    · rfl
    · intro a b p h; cases h
  · by_cases hb : b = 37
    · subst hb
      obtain ⟨u, r, e1, e2⟩ := cutL_miss ha (37 :: l)
      rw [cutL_hit] at e1
      obtain ⟨rfl, rfl⟩ := List.cons.inj e1
      rw [e2, hex2_no (.inr (hexV_no (.inl rfl))), pcs]
      · rfl
      · intro a b p h; cases h
    · obtain ⟨u, r, e1, e2⟩ := cutL_miss hb l
      obtain ⟨u2, r2, e3, e4⟩ := cutL_miss ha (b :: l)
      rw [e2] at e3
      obtain ⟨rfl, rfl⟩ := List.cons.inj e3
      rw [e4, pcs, unesc, e1]
      simp only
      cases hex2 a b with
      | none => rfl
      | some v => cases pcs r <;> rfl
theorem unesc_short1 : unesc [37] = none := by
  rw [unesc, cutL_hit]; rfl
theorem unesc_short2 (a : UInt8) : unesc [37, a] = none := by
  rw [unesc, cutL_hit]
  by_cases ha : a = 37
  · subst ha; rfl
  · obtain ⟨u, r, e1, e2⟩ := cutL_miss ha []
    have e1 : [[]] = u :: r := e1
    obtain ⟨rfl, rfl⟩ := List.cons.inj e1
    rw [e2]; rfl
def under (part : List UInt8) : List (List UInt8) → Option (List (List UInt8))
  | [] => none
  | h :: t => match unesc h, unescs t with
    | some u, some v => some ((part ++ u) :: v)
    | _, _ => none
theorem under_nil : ∀ {L : List (List UInt8)}, L ≠ [] → under [] L = unescs L
  | [], h => absurd rfl h
  | h :: t, _ => by
    rw [under, unescs]
    cases unesc h with
    | none => rfl
    | some u => cases unescs t <;> rfl
theorem rpath_under : ∀ (n : Nat) (l part : List UInt8), l.length < n → rpath n l part = under part (cutL 47 (ahead l))
  | 0, l, part, h => by omega
  | n + 1, [], part, _ => by
    show some [part] = under part [[]]
    simp [under, unesc_nil, unescs]
  | n + 1, c :: l, part, h => by
    have hl : l.length < n := by simpa using h
    rw [rpath, ahead]
    by_cases h63 : c = 63
    · rw [if_pos h63, if_pos h63]
      show some [part] = under part [[]]
      simp [under, unesc_nil, unescs]
    · rw [if_neg h63, if_neg h63]
      by_cases h47 : c = 47
      · subst h47
        rw [if_pos rfl, cutL_hit, rpath_under n l [] hl, under_nil (cutL_ne _ _), under, unesc_nil]
        cases unescs (cutL 47 (ahead l)) with
        | none => rfl
        | some v => simp
      · rw [if_neg h47]
        by_cases h37 : c = 37
        · subst h37
          rw [if_pos rfl]
          match l, hl with
          | [], _ =>
            obtain ⟨u, r, e1, e2⟩ := cutL_miss h47 (ahead [])
            rw [e2]
            have e1 : [[]] = u :: r := e1
            obtain ⟨rfl, rfl⟩ := List.cons.inj e1
            rw [under, unesc_short1]; rfl
          | [a], _ =>
            show none = _
            by_cases ha : a = 63
            · subst ha
              show none = under part [[37]]
              rw [under, unesc_short1]
            · by_cases ha2 : a = 47
              · subst ha2
                show none = under part [[37], []]
                rw [under, unesc_short1]
              · have e : cutL 47 (37 :: ahead [a]) = [[37, a]] := by
                  simp [ahead, cutL, ha, ha2]
                rw [e, under, unesc_short2]
          | a :: b :: l', hl =>
            rw [esc2]
            have hl' : l'.length < n := by simp only [List.length_cons] at hl; omega
            by_cases ha : a = 63
            · subst ha
              rw [hex2_no (.inl (hexV_no (.inr (.inr rfl))))]
              show none = under part [[37]]
              rw [under, unesc_short1]
            · rw [ahead, if_neg ha]
              by_cases ha2 : a = 47
              · subst ha2
                rw [hex2_no (.inl (hexV_no (.inr (.inl rfl))))]
                have e : cutL 47 (37 :: 47 :: ahead (b :: l')) = [37] :: cutL 47 (ahead (b :: l')) := by
                  simp [cutL]
                rw [e, under, unesc_short1]
              · by_cases hb : b = 63
                · subst hb
                  rw [hex2_no (.inr (hexV_no (.inr (.inr rfl))))]
                  have e : cutL 47 (37 :: a :: ahead (63 :: l')) = [[37, a]] := by
                    simp [ahead, cutL, ha2]
                  rw [e, under, unesc_short2]
                · rw [ahead, if_neg hb]
                  by_cases hb2 : b = 47
                  · subst hb2
                    rw [hex2_no (.inr (hexV_no (.inr (.inl rfl))))]
                    have e : cutL 47 (37 :: a :: 47 :: ahead l') = [37, a] :: cutL 47 (ahead l') := by
                      simp [cutL, ha2]
                    rw [e, under, unesc_short2]
                  · obtain ⟨u, r, e1, e2⟩ := cutL_miss hb2 (ahead l')
                    have e3 : cutL 47 (37 :: a :: b :: ahead l') = (37 :: a :: b :: u) :: r := by
                      obtain ⟨u2, r2, q1, q2⟩ := cutL_miss ha2 (b :: ahead l')
                      rw [e2] at q1
                      obtain ⟨rfl, rfl⟩ := List.cons.inj q1
                      obtain ⟨u3, r3, p1, p2⟩ := cutL_miss h47 (a :: b :: ahead l')
                      rw [q2] at p1
                      obtain ⟨rfl, rfl⟩ := List.cons.inj p1
                      exact p2
                    rw [e3, under, unesc_esc]
                    cases hex2 a b with
                    | none => rfl
                    | some v =>
                      simp only
                      rw [rpath_under n l' _ hl', e1, under]
                      cases unesc u with
                      | none => rfl
                      | some w => cases unescs r <;> simp
        · rw [if_neg h37, rpath_under n l _ hl]
          obtain ⟨u, r, e1, e2⟩ := cutL_miss h47 (ahead l)
          rw [e1, e2, under, under, unesc_plain h37]
          cases unesc u with
          | none => rfl
          | some w => cases unescs r <;> simp
theorem path_law : ∀ l : List UInt8, rpathL l = pathL l := by
  intro l
  unfold rpathL pathL
  split
  · rw [rpath_under _ _ _ (Nat.lt_succ_self _), under_nil (cutL_ne _ _)]
  · rfl
end Go.Proofs.YtpijbbobejeemaaGreatDoor.Htp

/- Http: strings.Split at a byte: a new row of texts. -/
set_option linter.unusedVariables false
set_option linter.unusedSimpArgs false
set_option maxRecDepth 100000
namespace Go.Proofs.YtpijbbobejeemaaGreatDoor.Htp
open Go Go.RowKit Go.Proofs.YtpijbbobejeemaaGreatDoor.Eng Go.Proofs.YtpijbbobejeemaaGreatDoor.Kit
theorem cutL_first (x : UInt8) (v : List UInt8) : ∀ u : List UInt8, x ∉ u → cutL x (u ++ x :: v) = u :: cutL x v
  | [], _ => by rw [List.nil_append, cutL_hit]
  | c :: u, h => by
    have hc : c ≠ x := fun e => h (by subst e; exact List.mem_cons_self)
    rw [List.cons_append]
    obtain ⟨a, r, e1, e2⟩ := cutL_miss hc (u ++ x :: v)
    rw [cutL_first x v u fun e => h (List.mem_cons_of_mem _ e)] at e1
    obtain ⟨rfl, rfl⟩ := List.cons.inj e1
    exact e2
theorem cutL_none (x : UInt8) : ∀ u : List UInt8, x ∉ u → cutL x u = [u]
  | [], _ => rfl
  | c :: u, h => by
    have hc : c ≠ x := fun e => h (by subst e; exact List.mem_cons_self)
    obtain ⟨a, r, e1, e2⟩ := cutL_miss hc u
    rw [cutL_none x u fun e => h (List.mem_cons_of_mem _ e)] at e1
    obtain ⟨rfl, rfl⟩ := List.cons.inj e1
    exact e2
theorem cutL_len (x : UInt8) : ∀ l : List UInt8, (cutL x l).length ≤ l.length + 1
  | [] => by simp [cutL]
  | c :: l => by
    by_cases hc : c = x
    · subst hc
      rw [cutL_hit, List.length_cons, List.length_cons]
      have := cutL_len c l
      omega
    · obtain ⟨a, r, e1, e2⟩ := cutL_miss hc l
      have := cutL_len x l
      rw [e1] at this
      rw [e2]
      simp only [List.length_cons] at *
      omega
theorem cutL_part (x : UInt8) : ∀ l : List UInt8, ∀ p ∈ cutL x l, p.length ≤ l.length
  | [], p, h => by
    have h : p ∈ [[]] := h
    rw [List.mem_singleton.1 h]; simp
  | c :: l, p, h => by
    by_cases hc : c = x
    · subst hc
      rw [cutL_hit] at h
      rcases List.mem_cons.1 h with rfl | h
      · simp
      · have := cutL_part c l p h
        simp only [List.length_cons]; omega
    · obtain ⟨a, r, e1, e2⟩ := cutL_miss hc l
      rw [e2] at h
      rcases List.mem_cons.1 h with rfl | h
      · have := cutL_part x l a (by rw [e1]; exact List.mem_cons_self)
        simp only [List.length_cons]; omega
      · have := cutL_part x l p (by rw [e1]; exact List.mem_cons_of_mem _ h)
        simp only [List.length_cons]; omega
theorem index_none (c : UInt8) : ∀ l : List UInt8, c ∉ l → Lib.index l [c] = -1
  | [], _ => by simp [Lib.index]
  | x :: l, h => by
    have hx : (c == x) = false := beq_eq_false_iff_ne.2 (fun e => h (by subst e; exact List.mem_cons_self))
    have ih := index_none c l (fun e => h (List.mem_cons_of_mem _ e))
    rw [Lib.index]
    have hp : [c].isPrefixOf (x :: l) = false := by simp [List.isPrefixOf, hx]
    rw [hp, ih]
    simp
theorem splitB_cut (x : UInt8) : ∀ (m : Nat) (s : ByteArray), s.size ≤ m → (Lib.splitB ⟨#[x]⟩ 0 (Lib.countB s ⟨#[x]⟩) s).map (·.data.toList) = cutL x s.data.toList := by
  intro m
  induction m with
  | zero =>
    intro s hs
    have h0 : s.data.toList = [] := List.eq_nil_of_length_eq_zero (by rw [ba_size]; omega)
    have hi : Lib.indexB s ⟨#[x]⟩ = -1 := by
      show Lib.index s.data.toList [x] = -1
      rw [h0]; exact index_none x [] (by simp)
    rw [Lib.splitB_miss _ _ _ _ hi, h0]
    simp [cutL, h0]
  | succ m ih =>
    intro s hs
    by_cases hx : x ∈ s.data.toList
    · obtain ⟨u, v, e, hu⟩ := List.eq_append_cons_of_mem hx
      have hi : Lib.indexB s ⟨#[x]⟩ = (u.length : Int) := by
        show Lib.index s.data.toList [x] = _
        rw [e]; exact index_first x u v hu
      have hsz : s.size = u.length + 1 + v.length := by rw [← ba_size, e]; simp; omega
      have hc := Lib.countB_hit s ⟨#[x]⟩ u.length (Nat.le_refl 1) hi
      have h1 : (ByteArray.mk #[x]).size = 1 := rfl
      rw [h1] at hc
      have hrest : (s.extract (u.length + 1) s.size).data.toList = v := by
        rw [extract_eq _ _ _ (Nat.le_refl _), e, List.drop_append, List.drop_eq_nil_of_le (by omega), List.nil_append, Nat.add_sub_cancel_left, List.drop_succ_cons, List.drop_zero]
        exact List.take_of_length_le (by omega)
      rw [hc, Nat.add_comm 1, Lib.splitB_hit _ _ _ _ _ hi, h1, List.map_cons, ih _ (by rw [← ba_size, hrest]; omega), hrest, e, cutL_first x v u hu]
      congr 1
      rw [Nat.add_zero, extract_eq _ _ _ (by omega), e]
      simp
    · have hi : Lib.indexB s ⟨#[x]⟩ = -1 := index_none x _ hx
      rw [Lib.splitB_miss _ _ _ _ hi, cutL_none x _ hx]
      rfl
def cutB (x : UInt8) (s : ByteArray) : List ByteArray := (cutL x s.data.toList).map tB
theorem splitB_eq (x : UInt8) (s : ByteArray) : Lib.splitB ⟨#[x]⟩ 0 (Lib.countB s ⟨#[x]⟩) s = cutB x s := by
  have h := splitB_cut x s.size s (Nat.le_refl _)
  unfold cutB
  rw [← h, List.map_map]
  have : (tB ∘ fun b : ByteArray => b.data.toList) = id := funext fun b => tB_self b
  rw [this, List.map_id]
theorem cutB_eq (x : UInt8) (s : ByteArray) (L : List (List UInt8)) (h : cutL x s.data.toList = L) : cutB x s = L.map tB := by unfold cutB; rw [h]
noncomputable def rowC {π : Type} (get : List AV → Option π) (pre : π → Prop) (vals : π → List Value) (e : TypeId) : List AV → Option (AP AV) := fun args => match get args with
  | some p => some (.need (pre p) (.new (.cells (vmap (vals p)) (2 * e)) fun i => .ret (.slice i 0 (vals p).length 1 (.lo (vals p).length))))
  | none => some (.fail "arguments")
theorem rowC_ok {W : World} {F : HP} (hF : OldOK W F) {f : FuncId} {π : Type} {get : List AV → Option π} {pre : π → Prop} {vals : π → List Value} {e : TypeId} (args : π → List Value) (hg : ∀ A p, get A = some p → A = vmap (args p))
    (h : ∀ p, pre p → ∀ w, Stays W w → Calls Tryz.prog f (args p).toArray w fun ed w' => ed = .returned (.slice (some ⟨w.heap.size, 0, none⟩) (vals p).length (vals p).length) ∧ w' = w.alloc (.cells (vals p).toArray e)) : C1OK Tryz.prog F f (rowC get pre vals e) := by
  intro st W0 N h0 w A vargs v h' n n' lg lg' c q hp he hc r ha hf
  unfold rowC at hp
  split at hp
  · rename_i p hg1
    cases hp
    obtain ⟨c1, e1, rfl⟩ := run_need he
    obtain ⟨hpre, hc1⟩ := (Cnd.and_iff _ _).1 hc
    obtain ⟨hn, e2⟩ := run_new e1
    obtain ⟨rfl, rfl, rfl⟩ := inv_ret e2
    have hA := hg _ _ hg1
    subst hA
    have : vargs = (args p).toArray := by
      have := ha.of_vmap
      rw [← this]
    subst this
    obtain ⟨D0, D, h1, h2, h3⟩ := r.sat
    refine (h p hpre w (hF D0 w h1)).mono ?_
    rintro ed w' ⟨rfl, rfl⟩
    have hle := Names.put_le (l := ⟨w.heap.size, 0, (vals p).length⟩) (hf n (Nat.le_refl _) (by omega))
    refine ⟨_, N.put n ⟨w.heap.size, 0, (vals p).length⟩, rfl, ?_, ?_, Ext.put⟩
    · refine r.new hn hle ((Below.refl _ w).alloc (Nat.le_refl _) _) ⟨fun x => x = w.heap.size, ?_, fun b hb => by subst hb; exact Nat.le_refl _⟩
      refine ⟨⟨w.heap.size, 0, (vals p).length⟩, (vals p).toArray, (0, 0), Names.put_same, fun _ => Iff.rfl, (by rw [Nat.mul_div_cancel_left _ (by decide : 0 < 2)]; exact heap_alloc_new w _), by simp, by rw [vmap_length]; simp, .inl rfl, ?_, fun _ => ⟨rfl, rfl⟩⟩
      have : (((vals p).toArray).toList.drop 0).take (vmap (vals p)).length = vals p := by rw [vmap_length]; simp
      rw [this]
      exact VRs.vmap _
    · simp only [VR]
      exact ⟨_, 0, _, Names.put_same, rfl, .inl rfl, by simp, by simp only [Cp.fits]; omega, Nat.le_refl _⟩
  · cases hp
    cases he
abbrev fSplit : Nat := 26
noncomputable def cSplit (x : UInt8) : List AV → Option (AP AV) := rowC g2s (fun p => p.2 = ⟨#[x]⟩ ∧ p.1.size < 4294967281) (fun p => (cutB x p.1).map Value.string) 9
theorem cSplit_ok {W : World} {F : HP} (hW : LW W) (hF : OldOK W F) (x : UInt8) : C1OK Tryz.prog F fSplit (cSplit x) :=
  rowC_ok hF (fun p => [.string p.1, .string p.2]) g2s_spec fun p hp w hw => by
    obtain ⟨h1, h2⟩ := hp
    obtain ⟨m, hm⟩ := hW.maxLen
    obtain ⟨s, t⟩ := p
    simp only at h1 h2
    subst h1
    have hk := Tryz.strings_Split s ⟨#[x]⟩ m w h2 (hw.cell hm) (Nat.le_refl 1)
    have hlen : (Lib.splitB ⟨#[x]⟩ 0 (Lib.countB s ⟨#[x]⟩) s).length = Lib.countB s ⟨#[x]⟩ + 1 := Lib.splitB_all ⟨#[x]⟩ (Nat.le_refl 1) 0 _ s rfl
    rw [← hlen, splitB_eq] at hk
    refine hk.mono fun e w' hh => ?_
    rw [List.length_map]
    exact hh
theorem rS_map (l : List ByteArray) : rowV encS l = vmap (l.map Value.string) := by
  unfold rowV
  congr 1
  induction l with
  | nil => rfl
  | cons a l ih => rw [List.flatMap_cons, List.map_cons, ih]; rfl
end Go.Proofs.YtpijbbobejeemaaGreatDoor.Htp

/- Http: strconv.ParseUint at two digits in base 16: runs. -/
set_option linter.unusedVariables false
set_option linter.unusedSimpArgs false
set_option maxRecDepth 100000
namespace Go.Proofs.YtpijbbobejeemaaGreatDoor.Htp
open Go Go.RowKit Go.Proofs.YtpijbbobejeemaaGreatDoor.Eng Go.Proofs.YtpijbbobejeemaaGreatDoor.Kit
noncomputable section
abbrev fPU : Nat := 105
abbrev fPUs : Nat := 74
def u64v (n : Nat) : AV := .v (.int .u64 (Int.ofNat n))
def u8n (n : Nat) : AV := .v (.int .u8 (Int.ofNat n))
def aPU (n k i : Nat) : List (Nat × AV) := [(1, iv (Int.ofNat 16)), (8, bv false), (10, u64v 1152921504606846976), (11, u64v 255), (12, bv false), (13, u64v n), (99, sB 1000 k), (100, iv (Int.ofNat k)), (101, iv (Int.ofNat i))]
def iPU : List Nat := [1, 8, 10, 11, 12, 13, 99, 100, 101, 6, 7]
def hPU (c : UInt8) (l e d m n' i : Nat) (u b1 b2 dg q1 q2 al big : Bool) : ClaimT := hintL [(fPU, 36, 0, hv (.lit true)), (fPU, 37, 1, hv (byv c)), (fPU, 40, 1, hv (.lit u)), (fPU, 40, 4, hv (.lit false)), (fPU, 42, 1, hv (.lit b1)), (fPU, 42, 4, hv (.lit b2)), (fPU, 42, 5, hv (.lit dg)),
  (fPU, 44, 1, hv (u8n l)), (fPU, 44, 2, hv (.lit q1)), (fPU, 44, 5, hv (u8n l)), (fPU, 44, 6, hv (.lit q2)), (fPU, 44, 7, hv (.lit al)), (fPU, 43, 1, hv (u8n d)), (fPU, 45, 1, hv (u8n l)), (fPU, 45, 2, hv (u8n e)), (fPU, 45, 3, hv (u8n d)), (fPU, 46, 2, hv (u8n 16)), (fPU, 46, 3, hv (.lit big)),
  (fPU, 48, 2, hv (.lit false)), (fPU, 50, 2, hv (u64v 16)), (fPU, 50, 3, hv (u64v m)), (fPU, 51, 2, hv (u64v d)), (fPU, 51, 3, hv (u64v n')), (fPU, 52, 2, hv (.lit false)), (fPU, 52, 6, hv (.lit false)), (fPU, 52, 7, hv (.lit false)), (fPU, 55, 0, hv (iv (Int.ofNat (i + 1))))]
theorem oPuD_eq (L : List UInt8) (c : UInt8) (l e d m n n' k i : Nat) (F : HP) : wLoop [] (hPU c l e d m n' i false true true true false false false false) [] default fPU (loopN fPU 36) (tms 0 172 (aPU n k i)) [(1000, rB1 L)] [1000] iPU F = VT.leaf (AX.normal, [AV.v (Value.int IntKind.i64 (Int.ofNat 16)), AV.v (Value.bool false), AV.v (Value.int IntKind.u64 (Int.ofNat 1152921504606846976)), AV.v (Value.int IntKind.u64 (Int.ofNat 255)), AV.v (Value.bool false), AV.v (Value.int IntKind.u64 (Int.ofNat n')), AV.slice 1000 0 k 1 (Cp.lo k), AV.v (Value.int IntKind.i64 (Int.ofNat k)), AV.v (Value.int IntKind.i64 (Int.ofNat (i + 1))), AV.any, AV.any], 172) [some (AO.cells (rowV encB L) 11)] 1100 (((Cnd.p (Wk (AV.v (Value.bool (decide (Int.ofNat i < Int.ofNat k)))) (AV.lit true))).a Cnd.t).a (((Cnd.p (i.blt k = true)).a Cnd.t).a (((Cnd.p ((0 + i * 1).blt (rowV encB L).length = true)).a ((Cnd.p ((rowV encB L).getD (0 + i * 1) (AV.undef) = AV.v (Value.int IntKind.u8 ((rowV encB L).getD (0 + i * 1) (AV.undef)).intOf))).a ((Cnd.p (Wk (AV.v (Value.int IntKind.u8 ((rowV encB L).getD (0 + i * 1) (AV.undef)).intOf)) (AV.v (Value.int IntKind.u8 ↑c.toNat)))).a Cnd.t))).a (((Cnd.p (Wk (AV.v (Value.bool (↑c.toNat == Int.ofNat 95))) (AV.lit false))).a Cnd.t).a (((Cnd.p (Wk (AV.lit false) (AV.lit false))).a Cnd.t).a (((Cnd.p (Wk (AV.v (Value.bool (decide (Int.ofNat 48 ≤ ↑c.toNat)))) (AV.lit true))).a Cnd.t).a (((Cnd.p (Wk (AV.v (Value.bool (decide (↑c.toNat ≤ Int.ofNat 57)))) (AV.lit true))).a Cnd.t).a (((Cnd.p (Wk (AV.lit true) (AV.lit true))).a Cnd.t).a (((Cnd.p (Wk (AV.v (Value.int IntKind.u8 (IntKind.u8.wrap (↑c.toNat - Int.ofNat 48)))) (AV.v (Value.int IntKind.u8 (Int.ofNat d))))).a Cnd.t).a (((Cnd.p (Wk (AV.v (Value.int IntKind.u8 (Int.ofNat 16))) (AV.v (Value.int IntKind.u8 (Int.ofNat 16))))).a Cnd.t).a (((Cnd.p (Wk (AV.v (Value.bool (decide (Int.ofNat d ≥ Int.ofNat 16)))) (AV.lit false))).a Cnd.t).a (((Cnd.p (Wk (AV.v (Value.bool (decide (Int.ofNat n ≥ Int.ofNat 1152921504606846976)))) (AV.lit false))).a Cnd.t).a (((Cnd.p (Wk (AV.v (Value.int IntKind.u64 (Int.ofNat 16))) (AV.v (Value.int IntKind.u64 (Int.ofNat 16))))).a Cnd.t).a (((Cnd.p (Wk (AV.v (Value.int IntKind.u64 (IntKind.u64.wrap (Int.ofNat n * Int.ofNat 16)))) (AV.v (Value.int IntKind.u64 (Int.ofNat m))))).a Cnd.t).a (((Cnd.p (Wk (AV.v (Value.int IntKind.u64 (IntKind.u64.wrap (Int.ofNat d)))) (AV.v (Value.int IntKind.u64 (Int.ofNat d))))).a Cnd.t).a (((Cnd.p (Wk (AV.v (Value.int IntKind.u64 (IntKind.u64.wrap (Int.ofNat m + Int.ofNat d)))) (AV.v (Value.int IntKind.u64 (Int.ofNat n'))))).a Cnd.t).a (((Cnd.p (Wk (AV.v (Value.bool (decide (Int.ofNat n' < Int.ofNat m)))) (AV.lit false))).a Cnd.t).a (((Cnd.p (Wk (AV.v (Value.bool (decide (Int.ofNat n' > Int.ofNat 255)))) (AV.lit false))).a Cnd.t).a (((Cnd.p (Wk (AV.lit false) (AV.lit false))).a Cnd.t).a (((Cnd.p (Wk (AV.v (Value.int IntKind.i64 (IntKind.i64.wrap (Int.ofNat i + Int.ofNat 1)))) (AV.v (Value.int IntKind.i64 (Int.ofNat (i + 1)))))).a Cnd.t).a Cnd.t)))))))))))))))))))) := by kernel_rfl
theorem oPuL_eq (L : List UInt8) (c : UInt8) (l e d m n n' k i : Nat) (F : HP) : wLoop [] (hPU c l e d m n' i false true false false true true true false) [] default fPU (loopN fPU 36) (tms 0 172 (aPU n k i)) [(1000, rB1 L)] [1000] iPU F = VT.leaf (AX.normal, [AV.v (Value.int IntKind.i64 (Int.ofNat 16)), AV.v (Value.bool false), AV.v (Value.int IntKind.u64 (Int.ofNat 1152921504606846976)), AV.v (Value.int IntKind.u64 (Int.ofNat 255)), AV.v (Value.bool false), AV.v (Value.int IntKind.u64 (Int.ofNat n')), AV.slice 1000 0 k 1 (Cp.lo k), AV.v (Value.int IntKind.i64 (Int.ofNat k)), AV.v (Value.int IntKind.i64 (Int.ofNat (i + 1))), AV.any, AV.any], 172) [some (AO.cells (rowV encB L) 11)] 1100 (((Cnd.p (Wk (AV.v (Value.bool (decide (Int.ofNat i < Int.ofNat k)))) (AV.lit true))).a Cnd.t).a (((Cnd.p (i.blt k = true)).a Cnd.t).a (((Cnd.p ((0 + i * 1).blt (rowV encB L).length = true)).a ((Cnd.p ((rowV encB L).getD (0 + i * 1) (AV.undef) = AV.v (Value.int IntKind.u8 ((rowV encB L).getD (0 + i * 1) (AV.undef)).intOf))).a ((Cnd.p (Wk (AV.v (Value.int IntKind.u8 ((rowV encB L).getD (0 + i * 1) (AV.undef)).intOf)) (AV.v (Value.int IntKind.u8 ↑c.toNat)))).a Cnd.t))).a (((Cnd.p (Wk (AV.v (Value.bool (↑c.toNat == Int.ofNat 95))) (AV.lit false))).a Cnd.t).a (((Cnd.p (Wk (AV.lit false) (AV.lit false))).a Cnd.t).a (((Cnd.p (Wk (AV.v (Value.bool (decide (Int.ofNat 48 ≤ ↑c.toNat)))) (AV.lit true))).a Cnd.t).a (((Cnd.p (Wk (AV.v (Value.bool (decide (↑c.toNat ≤ Int.ofNat 57)))) (AV.lit false))).a Cnd.t).a (((Cnd.p (Wk (AV.lit false) (AV.lit false))).a Cnd.t).a (((Cnd.p (Wk (AV.v (Value.int IntKind.u8 (IntKind.u8.wrap ↑(BitVec.ofInt 8 ↑c.toNat ||| BitVec.ofInt 8 (Int.ofNat 32)).toNat))) (AV.v (Value.int IntKind.u8 (Int.ofNat l))))).a Cnd.t).a (((Cnd.p (Wk (AV.v (Value.bool (decide (Int.ofNat 97 ≤ Int.ofNat l)))) (AV.lit true))).a Cnd.t).a (((Cnd.p (Wk (AV.v (Value.int IntKind.u8 (IntKind.u8.wrap ↑(BitVec.ofInt 8 ↑c.toNat ||| BitVec.ofInt 8 (Int.ofNat 32)).toNat))) (AV.v (Value.int IntKind.u8 (Int.ofNat l))))).a Cnd.t).a (((Cnd.p (Wk (AV.v (Value.bool (decide (Int.ofNat l ≤ Int.ofNat 122)))) (AV.lit true))).a Cnd.t).a (((Cnd.p (Wk (AV.lit true) (AV.lit true))).a Cnd.t).a (((Cnd.p (Wk (AV.v (Value.int IntKind.u8 (IntKind.u8.wrap ↑(BitVec.ofInt 8 ↑c.toNat ||| BitVec.ofInt 8 (Int.ofNat 32)).toNat))) (AV.v (Value.int IntKind.u8 (Int.ofNat l))))).a Cnd.t).a (((Cnd.p (Wk (AV.v (Value.int IntKind.u8 (IntKind.u8.wrap (Int.ofNat l - Int.ofNat 97)))) (AV.v (Value.int IntKind.u8 (Int.ofNat e))))).a Cnd.t).a (((Cnd.p (Wk (AV.v (Value.int IntKind.u8 (IntKind.u8.wrap (Int.ofNat e + Int.ofNat 10)))) (AV.v (Value.int IntKind.u8 (Int.ofNat d))))).a Cnd.t).a (((Cnd.p (Wk (AV.v (Value.int IntKind.u8 (Int.ofNat 16))) (AV.v (Value.int IntKind.u8 (Int.ofNat 16))))).a Cnd.t).a (((Cnd.p (Wk (AV.v (Value.bool (decide (Int.ofNat d ≥ Int.ofNat 16)))) (AV.lit false))).a Cnd.t).a (((Cnd.p (Wk (AV.v (Value.bool (decide (Int.ofNat n ≥ Int.ofNat 1152921504606846976)))) (AV.lit false))).a Cnd.t).a (((Cnd.p (Wk (AV.v (Value.int IntKind.u64 (Int.ofNat 16))) (AV.v (Value.int IntKind.u64 (Int.ofNat 16))))).a Cnd.t).a (((Cnd.p (Wk (AV.v (Value.int IntKind.u64 (IntKind.u64.wrap (Int.ofNat n * Int.ofNat 16)))) (AV.v (Value.int IntKind.u64 (Int.ofNat m))))).a Cnd.t).a (((Cnd.p (Wk (AV.v (Value.int IntKind.u64 (IntKind.u64.wrap (Int.ofNat d)))) (AV.v (Value.int IntKind.u64 (Int.ofNat d))))).a Cnd.t).a (((Cnd.p (Wk (AV.v (Value.int IntKind.u64 (IntKind.u64.wrap (Int.ofNat m + Int.ofNat d)))) (AV.v (Value.int IntKind.u64 (Int.ofNat n'))))).a Cnd.t).a (((Cnd.p (Wk (AV.v (Value.bool (decide (Int.ofNat n' < Int.ofNat m)))) (AV.lit false))).a Cnd.t).a (((Cnd.p (Wk (AV.v (Value.bool (decide (Int.ofNat n' > Int.ofNat 255)))) (AV.lit false))).a Cnd.t).a (((Cnd.p (Wk (AV.lit false) (AV.lit false))).a Cnd.t).a (((Cnd.p (Wk (AV.v (Value.int IntKind.i64 (IntKind.i64.wrap (Int.ofNat i + Int.ofNat 1)))) (AV.v (Value.int IntKind.i64 (Int.ofNat (i + 1)))))).a Cnd.t).a Cnd.t))))))))))))))))))))))))))) := by kernel_rfl
theorem oPuG_eq (L : List UInt8) (c : UInt8) (l e d m n n' k i : Nat) (F : HP) : wLoop [] (hPU c l e d m n' i false true false false true true true true) [] default fPU (loopN fPU 36) (tms 0 172 (aPU n k i)) [(1000, rB1 L)] [1000] iPU F = VT.leaf (AX.ret, [AV.v (Value.int IntKind.i64 (Int.ofNat 16)), AV.v (Value.bool false), AV.v (Value.int IntKind.u64 (Int.ofNat 1152921504606846976)), AV.v (Value.int IntKind.u64 (Int.ofNat 255)), AV.v (Value.bool false), AV.v (Value.int IntKind.u64 (Int.ofNat n)), AV.slice 1000 0 k 1 (Cp.lo k), AV.v (Value.int IntKind.i64 (Int.ofNat k)), AV.v (Value.int IntKind.i64 (Int.ofNat i)), AV.v (Value.int IntKind.u64 (Int.ofNat 0)), AV.iface 138 (AV.v (Value.int IntKind.i64 (Int.ofNat 2)))], 172) [some (AO.cells (rowV encB L) 11)] 1100 (((Cnd.p (Wk (AV.v (Value.bool (decide (Int.ofNat i < Int.ofNat k)))) (AV.lit true))).a Cnd.t).a (((Cnd.p (i.blt k = true)).a Cnd.t).a (((Cnd.p ((0 + i * 1).blt (rowV encB L).length = true)).a ((Cnd.p ((rowV encB L).getD (0 + i * 1) (AV.undef) = AV.v (Value.int IntKind.u8 ((rowV encB L).getD (0 + i * 1) (AV.undef)).intOf))).a ((Cnd.p (Wk (AV.v (Value.int IntKind.u8 ((rowV encB L).getD (0 + i * 1) (AV.undef)).intOf)) (AV.v (Value.int IntKind.u8 ↑c.toNat)))).a Cnd.t))).a (((Cnd.p (Wk (AV.v (Value.bool (↑c.toNat == Int.ofNat 95))) (AV.lit false))).a Cnd.t).a (((Cnd.p (Wk (AV.lit false) (AV.lit false))).a Cnd.t).a (((Cnd.p (Wk (AV.v (Value.bool (decide (Int.ofNat 48 ≤ ↑c.toNat)))) (AV.lit true))).a Cnd.t).a (((Cnd.p (Wk (AV.v (Value.bool (decide (↑c.toNat ≤ Int.ofNat 57)))) (AV.lit false))).a Cnd.t).a (((Cnd.p (Wk (AV.lit false) (AV.lit false))).a Cnd.t).a (((Cnd.p (Wk (AV.v (Value.int IntKind.u8 (IntKind.u8.wrap ↑(BitVec.ofInt 8 ↑c.toNat ||| BitVec.ofInt 8 (Int.ofNat 32)).toNat))) (AV.v (Value.int IntKind.u8 (Int.ofNat l))))).a Cnd.t).a (((Cnd.p (Wk (AV.v (Value.bool (decide (Int.ofNat 97 ≤ Int.ofNat l)))) (AV.lit true))).a Cnd.t).a (((Cnd.p (Wk (AV.v (Value.int IntKind.u8 (IntKind.u8.wrap ↑(BitVec.ofInt 8 ↑c.toNat ||| BitVec.ofInt 8 (Int.ofNat 32)).toNat))) (AV.v (Value.int IntKind.u8 (Int.ofNat l))))).a Cnd.t).a (((Cnd.p (Wk (AV.v (Value.bool (decide (Int.ofNat l ≤ Int.ofNat 122)))) (AV.lit true))).a Cnd.t).a (((Cnd.p (Wk (AV.lit true) (AV.lit true))).a Cnd.t).a (((Cnd.p (Wk (AV.v (Value.int IntKind.u8 (IntKind.u8.wrap ↑(BitVec.ofInt 8 ↑c.toNat ||| BitVec.ofInt 8 (Int.ofNat 32)).toNat))) (AV.v (Value.int IntKind.u8 (Int.ofNat l))))).a Cnd.t).a (((Cnd.p (Wk (AV.v (Value.int IntKind.u8 (IntKind.u8.wrap (Int.ofNat l - Int.ofNat 97)))) (AV.v (Value.int IntKind.u8 (Int.ofNat e))))).a Cnd.t).a (((Cnd.p (Wk (AV.v (Value.int IntKind.u8 (IntKind.u8.wrap (Int.ofNat e + Int.ofNat 10)))) (AV.v (Value.int IntKind.u8 (Int.ofNat d))))).a Cnd.t).a (((Cnd.p (Wk (AV.v (Value.int IntKind.u8 (Int.ofNat 16))) (AV.v (Value.int IntKind.u8 (Int.ofNat 16))))).a Cnd.t).a (((Cnd.p (Wk (AV.v (Value.bool (decide (Int.ofNat d ≥ Int.ofNat 16)))) (AV.lit true))).a Cnd.t).a Cnd.t)))))))))))))))))) := by kernel_rfl
theorem oPu1_eq (L : List UInt8) (c : UInt8) (l e d m n n' k i : Nat) (F : HP) : wLoop [] (hPU c l e d m n' i false false false false false false false false) [] default fPU (loopN fPU 36) (tms 0 172 (aPU n k i)) [(1000, rB1 L)] [1000] iPU F = VT.leaf (AX.ret, [AV.v (Value.int IntKind.i64 (Int.ofNat 16)), AV.v (Value.bool false), AV.v (Value.int IntKind.u64 (Int.ofNat 1152921504606846976)), AV.v (Value.int IntKind.u64 (Int.ofNat 255)), AV.v (Value.bool false), AV.v (Value.int IntKind.u64 (Int.ofNat n)), AV.slice 1000 0 k 1 (Cp.lo k), AV.v (Value.int IntKind.i64 (Int.ofNat k)), AV.v (Value.int IntKind.i64 (Int.ofNat i)), AV.v (Value.int IntKind.u64 (Int.ofNat 0)), AV.iface 138 (AV.v (Value.int IntKind.i64 (Int.ofNat 2)))], 172) [some (AO.cells (rowV encB L) 11)] 1100 (((Cnd.p (Wk (AV.v (Value.bool (decide (Int.ofNat i < Int.ofNat k)))) (AV.lit true))).a Cnd.t).a (((Cnd.p (i.blt k = true)).a Cnd.t).a (((Cnd.p ((0 + i * 1).blt (rowV encB L).length = true)).a ((Cnd.p ((rowV encB L).getD (0 + i * 1) (AV.undef) = AV.v (Value.int IntKind.u8 ((rowV encB L).getD (0 + i * 1) (AV.undef)).intOf))).a ((Cnd.p (Wk (AV.v (Value.int IntKind.u8 ((rowV encB L).getD (0 + i * 1) (AV.undef)).intOf)) (AV.v (Value.int IntKind.u8 ↑c.toNat)))).a Cnd.t))).a (((Cnd.p (Wk (AV.v (Value.bool (↑c.toNat == Int.ofNat 95))) (AV.lit false))).a Cnd.t).a (((Cnd.p (Wk (AV.lit false) (AV.lit false))).a Cnd.t).a (((Cnd.p (Wk (AV.v (Value.bool (decide (Int.ofNat 48 ≤ ↑c.toNat)))) (AV.lit false))).a Cnd.t).a (((Cnd.p (Wk (AV.lit false) (AV.lit false))).a Cnd.t).a (((Cnd.p (Wk (AV.v (Value.int IntKind.u8 (IntKind.u8.wrap ↑(BitVec.ofInt 8 ↑c.toNat ||| BitVec.ofInt 8 (Int.ofNat 32)).toNat))) (AV.v (Value.int IntKind.u8 (Int.ofNat l))))).a Cnd.t).a (((Cnd.p (Wk (AV.v (Value.bool (decide (Int.ofNat 97 ≤ Int.ofNat l)))) (AV.lit false))).a Cnd.t).a (((Cnd.p (Wk (AV.lit false) (AV.lit false))).a Cnd.t).a Cnd.t)))))))))) := by kernel_rfl
theorem oPu2_eq (L : List UInt8) (c : UInt8) (l e d m n n' k i : Nat) (F : HP) : wLoop [] (hPU c l e d m n' i false true false false false false false false) [] default fPU (loopN fPU 36) (tms 0 172 (aPU n k i)) [(1000, rB1 L)] [1000] iPU F = VT.leaf (AX.ret, [AV.v (Value.int IntKind.i64 (Int.ofNat 16)), AV.v (Value.bool false), AV.v (Value.int IntKind.u64 (Int.ofNat 1152921504606846976)), AV.v (Value.int IntKind.u64 (Int.ofNat 255)), AV.v (Value.bool false), AV.v (Value.int IntKind.u64 (Int.ofNat n)), AV.slice 1000 0 k 1 (Cp.lo k), AV.v (Value.int IntKind.i64 (Int.ofNat k)), AV.v (Value.int IntKind.i64 (Int.ofNat i)), AV.v (Value.int IntKind.u64 (Int.ofNat 0)), AV.iface 138 (AV.v (Value.int IntKind.i64 (Int.ofNat 2)))], 172) [some (AO.cells (rowV encB L) 11)] 1100 (((Cnd.p (Wk (AV.v (Value.bool (decide (Int.ofNat i < Int.ofNat k)))) (AV.lit true))).a Cnd.t).a (((Cnd.p (i.blt k = true)).a Cnd.t).a (((Cnd.p ((0 + i * 1).blt (rowV encB L).length = true)).a ((Cnd.p ((rowV encB L).getD (0 + i * 1) (AV.undef) = AV.v (Value.int IntKind.u8 ((rowV encB L).getD (0 + i * 1) (AV.undef)).intOf))).a ((Cnd.p (Wk (AV.v (Value.int IntKind.u8 ((rowV encB L).getD (0 + i * 1) (AV.undef)).intOf)) (AV.v (Value.int IntKind.u8 ↑c.toNat)))).a Cnd.t))).a (((Cnd.p (Wk (AV.v (Value.bool (↑c.toNat == Int.ofNat 95))) (AV.lit false))).a Cnd.t).a (((Cnd.p (Wk (AV.lit false) (AV.lit false))).a Cnd.t).a (((Cnd.p (Wk (AV.v (Value.bool (decide (Int.ofNat 48 ≤ ↑c.toNat)))) (AV.lit true))).a Cnd.t).a (((Cnd.p (Wk (AV.v (Value.bool (decide (↑c.toNat ≤ Int.ofNat 57)))) (AV.lit false))).a Cnd.t).a (((Cnd.p (Wk (AV.lit false) (AV.lit false))).a Cnd.t).a (((Cnd.p (Wk (AV.v (Value.int IntKind.u8 (IntKind.u8.wrap ↑(BitVec.ofInt 8 ↑c.toNat ||| BitVec.ofInt 8 (Int.ofNat 32)).toNat))) (AV.v (Value.int IntKind.u8 (Int.ofNat l))))).a Cnd.t).a (((Cnd.p (Wk (AV.v (Value.bool (decide (Int.ofNat 97 ≤ Int.ofNat l)))) (AV.lit false))).a Cnd.t).a (((Cnd.p (Wk (AV.lit false) (AV.lit false))).a Cnd.t).a Cnd.t))))))))))) := by kernel_rfl
theorem oPu3_eq (L : List UInt8) (c : UInt8) (l e d m n n' k i : Nat) (F : HP) : wLoop [] (hPU c l e d m n' i false true false false true false false false) [] default fPU (loopN fPU 36) (tms 0 172 (aPU n k i)) [(1000, rB1 L)] [1000] iPU F = VT.leaf (AX.ret, [AV.v (Value.int IntKind.i64 (Int.ofNat 16)), AV.v (Value.bool false), AV.v (Value.int IntKind.u64 (Int.ofNat 1152921504606846976)), AV.v (Value.int IntKind.u64 (Int.ofNat 255)), AV.v (Value.bool false), AV.v (Value.int IntKind.u64 (Int.ofNat n)), AV.slice 1000 0 k 1 (Cp.lo k), AV.v (Value.int IntKind.i64 (Int.ofNat k)), AV.v (Value.int IntKind.i64 (Int.ofNat i)), AV.v (Value.int IntKind.u64 (Int.ofNat 0)), AV.iface 138 (AV.v (Value.int IntKind.i64 (Int.ofNat 2)))], 172) [some (AO.cells (rowV encB L) 11)] 1100 (((Cnd.p (Wk (AV.v (Value.bool (decide (Int.ofNat i < Int.ofNat k)))) (AV.lit true))).a Cnd.t).a (((Cnd.p (i.blt k = true)).a Cnd.t).a (((Cnd.p ((0 + i * 1).blt (rowV encB L).length = true)).a ((Cnd.p ((rowV encB L).getD (0 + i * 1) (AV.undef) = AV.v (Value.int IntKind.u8 ((rowV encB L).getD (0 + i * 1) (AV.undef)).intOf))).a ((Cnd.p (Wk (AV.v (Value.int IntKind.u8 ((rowV encB L).getD (0 + i * 1) (AV.undef)).intOf)) (AV.v (Value.int IntKind.u8 ↑c.toNat)))).a Cnd.t))).a (((Cnd.p (Wk (AV.v (Value.bool (↑c.toNat == Int.ofNat 95))) (AV.lit false))).a Cnd.t).a (((Cnd.p (Wk (AV.lit false) (AV.lit false))).a Cnd.t).a (((Cnd.p (Wk (AV.v (Value.bool (decide (Int.ofNat 48 ≤ ↑c.toNat)))) (AV.lit true))).a Cnd.t).a (((Cnd.p (Wk (AV.v (Value.bool (decide (↑c.toNat ≤ Int.ofNat 57)))) (AV.lit false))).a Cnd.t).a (((Cnd.p (Wk (AV.lit false) (AV.lit false))).a Cnd.t).a (((Cnd.p (Wk (AV.v (Value.int IntKind.u8 (IntKind.u8.wrap ↑(BitVec.ofInt 8 ↑c.toNat ||| BitVec.ofInt 8 (Int.ofNat 32)).toNat))) (AV.v (Value.int IntKind.u8 (Int.ofNat l))))).a Cnd.t).a (((Cnd.p (Wk (AV.v (Value.bool (decide (Int.ofNat 97 ≤ Int.ofNat l)))) (AV.lit true))).a Cnd.t).a (((Cnd.p (Wk (AV.v (Value.int IntKind.u8 (IntKind.u8.wrap ↑(BitVec.ofInt 8 ↑c.toNat ||| BitVec.ofInt 8 (Int.ofNat 32)).toNat))) (AV.v (Value.int IntKind.u8 (Int.ofNat l))))).a Cnd.t).a (((Cnd.p (Wk (AV.v (Value.bool (decide (Int.ofNat l ≤ Int.ofNat 122)))) (AV.lit false))).a Cnd.t).a (((Cnd.p (Wk (AV.lit false) (AV.lit false))).a Cnd.t).a Cnd.t))))))))))))) := by kernel_rfl
theorem oPu4_eq (L : List UInt8) (c : UInt8) (l e d m n n' k i : Nat) (F : HP) : wLoop [] (hPU c l e d m n' i true true false false true false false false) [] default fPU (loopN fPU 36) (tms 0 172 (aPU n k i)) [(1000, rB1 L)] [1000] iPU F = VT.leaf (AX.ret, [AV.v (Value.int IntKind.i64 (Int.ofNat 16)), AV.v (Value.bool false), AV.v (Value.int IntKind.u64 (Int.ofNat 1152921504606846976)), AV.v (Value.int IntKind.u64 (Int.ofNat 255)), AV.v (Value.bool false), AV.v (Value.int IntKind.u64 (Int.ofNat n)), AV.slice 1000 0 k 1 (Cp.lo k), AV.v (Value.int IntKind.i64 (Int.ofNat k)), AV.v (Value.int IntKind.i64 (Int.ofNat i)), AV.v (Value.int IntKind.u64 (Int.ofNat 0)), AV.iface 138 (AV.v (Value.int IntKind.i64 (Int.ofNat 2)))], 172) [some (AO.cells (rowV encB L) 11)] 1100 (((Cnd.p (Wk (AV.v (Value.bool (decide (Int.ofNat i < Int.ofNat k)))) (AV.lit true))).a Cnd.t).a (((Cnd.p (i.blt k = true)).a Cnd.t).a (((Cnd.p ((0 + i * 1).blt (rowV encB L).length = true)).a ((Cnd.p ((rowV encB L).getD (0 + i * 1) (AV.undef) = AV.v (Value.int IntKind.u8 ((rowV encB L).getD (0 + i * 1) (AV.undef)).intOf))).a ((Cnd.p (Wk (AV.v (Value.int IntKind.u8 ((rowV encB L).getD (0 + i * 1) (AV.undef)).intOf)) (AV.v (Value.int IntKind.u8 ↑c.toNat)))).a Cnd.t))).a (((Cnd.p (Wk (AV.v (Value.bool (↑c.toNat == Int.ofNat 95))) (AV.lit true))).a Cnd.t).a (((Cnd.p (Wk (AV.v (Value.bool false)) (AV.lit false))).a Cnd.t).a (((Cnd.p (Wk (AV.v (Value.bool (decide (Int.ofNat 48 ≤ ↑c.toNat)))) (AV.lit true))).a Cnd.t).a (((Cnd.p (Wk (AV.v (Value.bool (decide (↑c.toNat ≤ Int.ofNat 57)))) (AV.lit false))).a Cnd.t).a (((Cnd.p (Wk (AV.lit false) (AV.lit false))).a Cnd.t).a (((Cnd.p (Wk (AV.v (Value.int IntKind.u8 (IntKind.u8.wrap ↑(BitVec.ofInt 8 ↑c.toNat ||| BitVec.ofInt 8 (Int.ofNat 32)).toNat))) (AV.v (Value.int IntKind.u8 (Int.ofNat l))))).a Cnd.t).a (((Cnd.p (Wk (AV.v (Value.bool (decide (Int.ofNat 97 ≤ Int.ofNat l)))) (AV.lit true))).a Cnd.t).a (((Cnd.p (Wk (AV.v (Value.int IntKind.u8 (IntKind.u8.wrap ↑(BitVec.ofInt 8 ↑c.toNat ||| BitVec.ofInt 8 (Int.ofNat 32)).toNat))) (AV.v (Value.int IntKind.u8 (Int.ofNat l))))).a Cnd.t).a (((Cnd.p (Wk (AV.v (Value.bool (decide (Int.ofNat l ≤ Int.ofNat 122)))) (AV.lit false))).a Cnd.t).a (((Cnd.p (Wk (AV.lit false) (AV.lit false))).a Cnd.t).a Cnd.t))))))))))))) := by kernel_rfl
theorem oPuE_eq (L : List UInt8) (n k : Nat) (F : HP) : wLoop [] (hintL [(fPU, 36, 0, hv (.lit false))]) [] default fPU (loopN fPU 36) (tms 0 172 (aPU n k k)) [(1000, rB1 L)] [1000] iPU F = VT.leaf (AX.exit 3, [AV.v (Value.int IntKind.i64 (Int.ofNat 16)), AV.v (Value.bool false), AV.v (Value.int IntKind.u64 (Int.ofNat 1152921504606846976)), AV.v (Value.int IntKind.u64 (Int.ofNat 255)), AV.v (Value.bool false), AV.v (Value.int IntKind.u64 (Int.ofNat n)), AV.slice 1000 0 k 1 (Cp.lo k), AV.v (Value.int IntKind.i64 (Int.ofNat k)), AV.v (Value.int IntKind.i64 (Int.ofNat k)), AV.any, AV.any], 172) [some (AO.cells (rowV encB L) 11)] 1100 (((Cnd.p (Wk (AV.v (Value.bool (decide (Int.ofNat k < Int.ofNat k)))) (AV.lit false))).a Cnd.t).a Cnd.t) := by kernel_rfl

def gPU : List AV → AP Nat := fun tmps => match getL tmps 99 with
  | .slice a _ _ _ _ => .ret a
  | _ => .fail "digits"
def lPU (L : List UInt8) (n k : Nat) : List AV → AP (AX × List AV) := mkL gPU (fun _ => True) nmEn (fun _ => tms 0 172 (aPU 0 k 0)) (fun _ => [(1000, rB1 L)]) (fun _ => .leaf (.exit 3) (tms 0 172 [(12, bv false), (13, u64v n)]) [])
def errI : AV := .iface 138 (.v (.int .i64 (Int.ofNat 2)))
def lPUx (L : List UInt8) (k : Nat) : List AV → AP (AX × List AV) := mkL gPU (fun _ => True) nmEn (fun _ => tms 0 172 (aPU 0 k 0)) (fun _ => [(1000, rB1 L)]) (fun _ => .leaf .ret (tms 0 172 [(6, u64v 0), (7, errI)]) [])
def hPUf (s : ByteArray) : ClaimT := hintL [(fPU, 1, 1, hv (.lit false)), (fPU, 3, 1, hv (bv false)), (fPU, 6, 1, hv (.lit true)), (fPU, 6, 4, hv (.lit true)), (fPU, 6, 5, hv (.lit true)), (fPU, 21, 1, hv (.lit false)), (fPU, 23, 1, hv (.lit false)), (fPU, 23, 4, hv (.lit false)), (fPU, 23, 5, hv (.lit false)), (fPU, 28, 0, hv (.lit false)), (fPU, 30, 0, hv (.lit true)), (fPU, 32, 3, hv (u64v 255)), (fPU, 35, 1, ho 1100 (rB1 s.data.toList)), (fPU, 56, 1, hv (.lit false)), (fPU, 56, 5, hv (.lit false))]
theorem oPF_eq (s : ByteArray) (n k : Nat) (F : HP) : wRun [] (hPUf s) [(fPU, 36, loopN fPU 36, lPU s.data.toList n k)] default fPU [sv s, iv (Int.ofNat 16), iv (Int.ofNat 8)] [] [] F = VT.leaf (AV.tuple [AV.v (Value.int IntKind.u64 (Int.ofNat n)), AV.v Value.nilIface]) [] 1101 (((Cnd.p (Wk (AV.v (Value.bool (s.toList == []))) (AV.lit false))).a Cnd.t).a (((Cnd.p (Wk (AV.v (Value.bool false)) (AV.v (Value.bool false)))).a Cnd.t).a (((Cnd.p (Wk (AV.v (Value.bool true)) (AV.lit true))).a Cnd.t).a (((Cnd.p (Wk (AV.v (Value.bool true)) (AV.lit true))).a Cnd.t).a (((Cnd.p (Wk (AV.lit true) (AV.lit true))).a Cnd.t).a (((Cnd.p (Wk (AV.v (Value.bool false)) (AV.lit false))).a Cnd.t).a (((Cnd.p (Wk (AV.v (Value.bool false)) (AV.lit false))).a Cnd.t).a (((Cnd.p (Wk (AV.v (Value.bool false)) (AV.lit false))).a Cnd.t).a (((Cnd.p (Wk (AV.lit false) (AV.lit false))).a Cnd.t).a (((Cnd.p (Wk (AV.v (Value.bool false)) (AV.lit false))).a Cnd.t).a (((Cnd.p (Wk (AV.v (Value.bool true)) (AV.lit true))).a Cnd.t).a (((Cnd.p (Wk (AV.v (Value.int IntKind.u64 (Int.ofNat 255))) (AV.v (Value.int IntKind.u64 (Int.ofNat 255))))).a Cnd.t).a (((Cnd.p (OW (AO.cells (vmap (List.map (fun b => Value.int IntKind.u8 ↑b.toNat) s.data.toList)) 11) (AO.cells (rowV encB s.data.toList) 11))).a Cnd.t).a ((Cnd.p ((fPU, 36, loopN fPU 36, lPU s.data.toList n k).snd.snd.fst = (fPU, 36, loopN fPU 36, lPU s.data.toList n k).snd.snd.fst)).a ((Cnd.p True).a ((Cnd.p (VW [AV.v (Value.string s), AV.v (Value.int IntKind.i64 (Int.ofNat 16)), AV.v (Value.int IntKind.i64 (Int.ofNat 8)), AV.undef, AV.undef, AV.undef, AV.v (Value.int IntKind.u64 (Int.ofNat 0)), AV.v Value.nilIface, AV.v (Value.bool false), AV.v (Value.string s), AV.v (Value.int IntKind.u64 (Int.ofNat 1152921504606846976)), AV.v (Value.int IntKind.u64 (Int.ofNat 255)), AV.v (Value.bool false), AV.v (Value.int IntKind.u64 (Int.ofNat 0)), AV.undef, AV.undef, AV.undef, AV.undef, AV.v (Value.string s), AV.lit false, AV.undef, AV.v (Value.int IntKind.i64 (Int.ofNat 16)), AV.v (Value.bool false), AV.v (Value.string s), AV.undef, AV.lit true, AV.v (Value.int IntKind.i64 (Int.ofNat 16)), AV.lit true, AV.lit true, AV.v (Value.int IntKind.i64 (Int.ofNat 16)), AV.lit true, AV.lit true, AV.undef, AV.undef, AV.undef, AV.undef, AV.undef, AV.undef, AV.undef, AV.undef, AV.undef, AV.undef, AV.undef, AV.undef, AV.undef, AV.undef, AV.undef, AV.undef, AV.undef, AV.undef, AV.undef, AV.undef, AV.undef, AV.undef, AV.undef, AV.undef, AV.undef, AV.undef, AV.undef, AV.undef, AV.undef, AV.undef, AV.undef, AV.undef, AV.undef, AV.undef, AV.undef, AV.undef, AV.undef, AV.undef, AV.undef, AV.undef, AV.undef, AV.undef, AV.undef, AV.undef, AV.v (Value.int IntKind.i64 (Int.ofNat 8)), AV.lit false, AV.v (Value.int IntKind.i64 (Int.ofNat 8)), AV.lit false, AV.lit false, AV.v (Value.int IntKind.i64 (Int.ofNat 8)), AV.lit false, AV.lit false, AV.undef, AV.v (Value.int IntKind.i64 (Int.ofNat 16)), AV.undef, AV.undef, AV.undef, AV.undef, AV.lit false, AV.lit false, AV.lit true, AV.lit true, AV.v (Value.int IntKind.i64 (Int.ofNat 8)), AV.v (Value.int IntKind.u64 (Int.ofNat 8)), AV.v (Value.int IntKind.u64 (Int.ofNat 256)), AV.v (Value.int IntKind.u64 (Int.ofNat 255)), AV.v (Value.string s), AV.slice 1100 0 s.size 1 (Cp.lo s.size), AV.v (Value.int IntKind.i64 ↑s.size), AV.v (Value.int IntKind.i64 (Int.ofNat 0)), AV.undef, AV.undef, AV.undef, AV.undef, AV.undef, AV.undef, AV.undef, AV.undef, AV.undef, AV.undef, AV.undef, AV.undef, AV.undef, AV.undef, AV.undef, AV.undef, AV.undef, AV.undef, AV.undef, AV.undef, AV.undef, AV.undef, AV.undef, AV.undef, AV.undef, AV.undef, AV.undef, AV.undef, AV.undef, AV.undef, AV.undef, AV.undef, AV.undef, AV.undef, AV.undef, AV.undef, AV.undef, AV.undef, AV.undef, AV.undef, AV.undef, AV.undef, AV.undef, AV.undef, AV.undef, AV.undef, AV.undef, AV.undef, AV.undef, AV.undef, AV.undef, AV.undef, AV.undef, AV.undef, AV.undef, AV.undef, AV.undef, AV.undef, AV.undef, AV.undef, AV.undef, AV.undef, AV.undef, AV.undef, AV.undef, AV.undef, AV.undef, AV.undef, AV.undef, AV.undef] [AV.any, AV.v (Value.int IntKind.i64 (Int.ofNat 16)), AV.any, AV.any, AV.any, AV.any, AV.any, AV.any, AV.v (Value.bool false), AV.any, AV.v (Value.int IntKind.u64 (Int.ofNat 1152921504606846976)), AV.v (Value.int IntKind.u64 (Int.ofNat 255)), AV.v (Value.bool false), AV.v (Value.int IntKind.u64 (Int.ofNat 0)), AV.any, AV.any, AV.any, AV.any, AV.any, AV.any, AV.any, AV.any, AV.any, AV.any, AV.any, AV.any, AV.any, AV.any, AV.any, AV.any, AV.any, AV.any, AV.any, AV.any, AV.any, AV.any, AV.any, AV.any, AV.any, AV.any, AV.any, AV.any, AV.any, AV.any, AV.any, AV.any, AV.any, AV.any, AV.any, AV.any, AV.any, AV.any, AV.any, AV.any, AV.any, AV.any, AV.any, AV.any, AV.any, AV.any, AV.any, AV.any, AV.any, AV.any, AV.any, AV.any, AV.any, AV.any, AV.any, AV.any, AV.any, AV.any, AV.any, AV.any, AV.any, AV.any, AV.any, AV.any, AV.any, AV.any, AV.any, AV.any, AV.any, AV.any, AV.any, AV.any, AV.any, AV.any, AV.any, AV.any, AV.any, AV.any, AV.any, AV.any, AV.any, AV.any, AV.any, AV.any, AV.any, AV.slice 1100 0 k 1 (Cp.lo k), AV.v (Value.int IntKind.i64 (Int.ofNat k)), AV.v (Value.int IntKind.i64 (Int.ofNat 0)), AV.any, AV.any, AV.any, AV.any, AV.any, AV.any, AV.any, AV.any, AV.any, AV.any, AV.any, AV.any, AV.any, AV.any, AV.any, AV.any, AV.any, AV.any, AV.any, AV.any, AV.any, AV.any, AV.any, AV.any, AV.any, AV.any, AV.any, AV.any, AV.any, AV.any, AV.any, AV.any, AV.any, AV.any, AV.any, AV.any, AV.any, AV.any, AV.any, AV.any, AV.any, AV.any, AV.any, AV.any, AV.any, AV.any, AV.any, AV.any, AV.any, AV.any, AV.any, AV.any, AV.any, AV.any, AV.any, AV.any, AV.any, AV.any, AV.any, AV.any, AV.any, AV.any, AV.any, AV.any, AV.any, AV.any, AV.any, AV.any, AV.any, AV.any])).a ((Cnd.p (OW (AO.cells (rowV encB s.data.toList) 11) (AO.cells (AV.rens (nmEn 1100) (rowV encB s.data.toList)) 11))).a (((Cnd.p (Wk (AV.v (Value.bool false)) (AV.lit false))).a Cnd.t).a (((Cnd.p (Wk (AV.lit false) (AV.lit false))).a Cnd.t).a Cnd.t))))))))))))))))))) := by kernel_rfl
theorem oPFx_eq (s : ByteArray) (k : Nat) (F : HP) : wRun [] (hPUf s) [(fPU, 36, loopN fPU 36, lPUx s.data.toList k)] default fPU [sv s, iv (Int.ofNat 16), iv (Int.ofNat 8)] [] [] F = VT.leaf (AV.tuple [AV.v (Value.int IntKind.u64 (Int.ofNat 0)), AV.iface 138 (AV.v (Value.int IntKind.i64 (Int.ofNat 2)))]) [] 1101 (((Cnd.p (Wk (AV.v (Value.bool (s.toList == []))) (AV.lit false))).a Cnd.t).a (((Cnd.p (Wk (AV.v (Value.bool false)) (AV.v (Value.bool false)))).a Cnd.t).a (((Cnd.p (Wk (AV.v (Value.bool true)) (AV.lit true))).a Cnd.t).a (((Cnd.p (Wk (AV.v (Value.bool true)) (AV.lit true))).a Cnd.t).a (((Cnd.p (Wk (AV.lit true) (AV.lit true))).a Cnd.t).a (((Cnd.p (Wk (AV.v (Value.bool false)) (AV.lit false))).a Cnd.t).a (((Cnd.p (Wk (AV.v (Value.bool false)) (AV.lit false))).a Cnd.t).a (((Cnd.p (Wk (AV.v (Value.bool false)) (AV.lit false))).a Cnd.t).a (((Cnd.p (Wk (AV.lit false) (AV.lit false))).a Cnd.t).a (((Cnd.p (Wk (AV.v (Value.bool false)) (AV.lit false))).a Cnd.t).a (((Cnd.p (Wk (AV.v (Value.bool true)) (AV.lit true))).a Cnd.t).a (((Cnd.p (Wk (AV.v (Value.int IntKind.u64 (Int.ofNat 255))) (AV.v (Value.int IntKind.u64 (Int.ofNat 255))))).a Cnd.t).a (((Cnd.p (OW (AO.cells (vmap (List.map (fun b => Value.int IntKind.u8 ↑b.toNat) s.data.toList)) 11) (AO.cells (rowV encB s.data.toList) 11))).a Cnd.t).a ((Cnd.p ((fPU, 36, loopN fPU 36, lPUx s.data.toList k).snd.snd.fst = (fPU, 36, loopN fPU 36, lPUx s.data.toList k).snd.snd.fst)).a ((Cnd.p True).a ((Cnd.p (VW [AV.v (Value.string s), AV.v (Value.int IntKind.i64 (Int.ofNat 16)), AV.v (Value.int IntKind.i64 (Int.ofNat 8)), AV.undef, AV.undef, AV.undef, AV.v (Value.int IntKind.u64 (Int.ofNat 0)), AV.v Value.nilIface, AV.v (Value.bool false), AV.v (Value.string s), AV.v (Value.int IntKind.u64 (Int.ofNat 1152921504606846976)), AV.v (Value.int IntKind.u64 (Int.ofNat 255)), AV.v (Value.bool false), AV.v (Value.int IntKind.u64 (Int.ofNat 0)), AV.undef, AV.undef, AV.undef, AV.undef, AV.v (Value.string s), AV.lit false, AV.undef, AV.v (Value.int IntKind.i64 (Int.ofNat 16)), AV.v (Value.bool false), AV.v (Value.string s), AV.undef, AV.lit true, AV.v (Value.int IntKind.i64 (Int.ofNat 16)), AV.lit true, AV.lit true, AV.v (Value.int IntKind.i64 (Int.ofNat 16)), AV.lit true, AV.lit true, AV.undef, AV.undef, AV.undef, AV.undef, AV.undef, AV.undef, AV.undef, AV.undef, AV.undef, AV.undef, AV.undef, AV.undef, AV.undef, AV.undef, AV.undef, AV.undef, AV.undef, AV.undef, AV.undef, AV.undef, AV.undef, AV.undef, AV.undef, AV.undef, AV.undef, AV.undef, AV.undef, AV.undef, AV.undef, AV.undef, AV.undef, AV.undef, AV.undef, AV.undef, AV.undef, AV.undef, AV.undef, AV.undef, AV.undef, AV.undef, AV.undef, AV.undef, AV.undef, AV.undef, AV.v (Value.int IntKind.i64 (Int.ofNat 8)), AV.lit false, AV.v (Value.int IntKind.i64 (Int.ofNat 8)), AV.lit false, AV.lit false, AV.v (Value.int IntKind.i64 (Int.ofNat 8)), AV.lit false, AV.lit false, AV.undef, AV.v (Value.int IntKind.i64 (Int.ofNat 16)), AV.undef, AV.undef, AV.undef, AV.undef, AV.lit false, AV.lit false, AV.lit true, AV.lit true, AV.v (Value.int IntKind.i64 (Int.ofNat 8)), AV.v (Value.int IntKind.u64 (Int.ofNat 8)), AV.v (Value.int IntKind.u64 (Int.ofNat 256)), AV.v (Value.int IntKind.u64 (Int.ofNat 255)), AV.v (Value.string s), AV.slice 1100 0 s.size 1 (Cp.lo s.size), AV.v (Value.int IntKind.i64 ↑s.size), AV.v (Value.int IntKind.i64 (Int.ofNat 0)), AV.undef, AV.undef, AV.undef, AV.undef, AV.undef, AV.undef, AV.undef, AV.undef, AV.undef, AV.undef, AV.undef, AV.undef, AV.undef, AV.undef, AV.undef, AV.undef, AV.undef, AV.undef, AV.undef, AV.undef, AV.undef, AV.undef, AV.undef, AV.undef, AV.undef, AV.undef, AV.undef, AV.undef, AV.undef, AV.undef, AV.undef, AV.undef, AV.undef, AV.undef, AV.undef, AV.undef, AV.undef, AV.undef, AV.undef, AV.undef, AV.undef, AV.undef, AV.undef, AV.undef, AV.undef, AV.undef, AV.undef, AV.undef, AV.undef, AV.undef, AV.undef, AV.undef, AV.undef, AV.undef, AV.undef, AV.undef, AV.undef, AV.undef, AV.undef, AV.undef, AV.undef, AV.undef, AV.undef, AV.undef, AV.undef, AV.undef, AV.undef, AV.undef, AV.undef, AV.undef] [AV.any, AV.v (Value.int IntKind.i64 (Int.ofNat 16)), AV.any, AV.any, AV.any, AV.any, AV.any, AV.any, AV.v (Value.bool false), AV.any, AV.v (Value.int IntKind.u64 (Int.ofNat 1152921504606846976)), AV.v (Value.int IntKind.u64 (Int.ofNat 255)), AV.v (Value.bool false), AV.v (Value.int IntKind.u64 (Int.ofNat 0)), AV.any, AV.any, AV.any, AV.any, AV.any, AV.any, AV.any, AV.any, AV.any, AV.any, AV.any, AV.any, AV.any, AV.any, AV.any, AV.any, AV.any, AV.any, AV.any, AV.any, AV.any, AV.any, AV.any, AV.any, AV.any, AV.any, AV.any, AV.any, AV.any, AV.any, AV.any, AV.any, AV.any, AV.any, AV.any, AV.any, AV.any, AV.any, AV.any, AV.any, AV.any, AV.any, AV.any, AV.any, AV.any, AV.any, AV.any, AV.any, AV.any, AV.any, AV.any, AV.any, AV.any, AV.any, AV.any, AV.any, AV.any, AV.any, AV.any, AV.any, AV.any, AV.any, AV.any, AV.any, AV.any, AV.any, AV.any, AV.any, AV.any, AV.any, AV.any, AV.any, AV.any, AV.any, AV.any, AV.any, AV.any, AV.any, AV.any, AV.any, AV.any, AV.any, AV.any, AV.any, AV.any, AV.slice 1100 0 k 1 (Cp.lo k), AV.v (Value.int IntKind.i64 (Int.ofNat k)), AV.v (Value.int IntKind.i64 (Int.ofNat 0)), AV.any, AV.any, AV.any, AV.any, AV.any, AV.any, AV.any, AV.any, AV.any, AV.any, AV.any, AV.any, AV.any, AV.any, AV.any, AV.any, AV.any, AV.any, AV.any, AV.any, AV.any, AV.any, AV.any, AV.any, AV.any, AV.any, AV.any, AV.any, AV.any, AV.any, AV.any, AV.any, AV.any, AV.any, AV.any, AV.any, AV.any, AV.any, AV.any, AV.any, AV.any, AV.any, AV.any, AV.any, AV.any, AV.any, AV.any, AV.any, AV.any, AV.any, AV.any, AV.any, AV.any, AV.any, AV.any, AV.any, AV.any, AV.any, AV.any, AV.any, AV.any, AV.any, AV.any, AV.any, AV.any, AV.any, AV.any, AV.any, AV.any, AV.any])).a ((Cnd.p (OW (AO.cells (rowV encB s.data.toList) 11) (AO.cells (AV.rens (nmEn 1100) (rowV encB s.data.toList)) 11))).a Cnd.t))))))))))))))))) := by kernel_rfl
def cPUi (s : ByteArray) (res : AV) : List AV → Option (AP AV) := mkC (fun _ => .ret ()) (fun _ => True) (fun _ i => i) (fun _ => [sv s, iv (Int.ofNat 16), iv (Int.ofNat 8)]) (fun _ => []) (fun _ => .leaf .ret [res] [])
theorem oPS_eq (s : ByteArray) (n : Nat) (F : HP) : wRun [(fPU, cPUi s (.tuple [u64v n, .v .nilIface]))] (hintL [(fPUs, 2, 1, hv (.lit false))]) [] default fPUs [sv s, iv (Int.ofNat 16), iv (Int.ofNat 8)] [] [] F = VT.leaf (AV.tuple [AV.v (Value.int IntKind.u64 (Int.ofNat n)), AV.v Value.nilIface]) [] 1100 (((Cnd.p True).a ((Cnd.p (VW [AV.v (Value.string s), AV.v (Value.int IntKind.i64 (Int.ofNat 16)), AV.v (Value.int IntKind.i64 (Int.ofNat 8))] [AV.v (Value.string s), AV.v (Value.int IntKind.i64 (Int.ofNat 16)), AV.v (Value.int IntKind.i64 (Int.ofNat 8))])).a Cnd.t)).a (((Cnd.p (Wk (AV.v (Value.bool false)) (AV.lit false))).a Cnd.t).a Cnd.t)) := by kernel_rfl
abbrev fTE : Nat := 98
abbrev tNum : TypeId := 141
def gTE : List AV → Option (ByteArray × ByteArray)
  | [.v (.string a), .v (.string s), .v (.int .i64 _), .v (.int .i64 _), .iface t (.v (.int .i64 z))] => match Nat.beq t 138 with
    | true => match z with
      | .ofNat k => match Nat.beq k 2 with
        | true => some (a, s)
        | false => none
      | _ => none
    | false => none
  | _ => none
def cTE : List AV → Option (AP AV) := fun args => match gTE args with
  | some p => some (.need (p.2.size ≤ 281474976710656) (.ret (.iface tNum .any)))
  | none => some (.fail "toError")
def errV : AV := .tuple [u64v 0, .iface tNum .any]
theorem oPSx_eq (W : World) (s : ByteArray) (F : HP) : wRun [(fPU, cPUi s (.tuple [u64v 0, errI])), (fTE, cTE)] (hintL [(fPUs, 2, 1, hv (.lit true))]) [] W fPUs [sv s, iv (Int.ofNat 16), iv (Int.ofNat 8)] [] [] F = VT.leaf (AV.tuple [AV.v (Value.int IntKind.u64 (Int.ofNat 0)), AV.iface 141 AV.any]) [] 1100 (((Cnd.p True).a ((Cnd.p (VW [AV.v (Value.string s), AV.v (Value.int IntKind.i64 (Int.ofNat 16)), AV.v (Value.int IntKind.i64 (Int.ofNat 8))] [AV.v (Value.string s), AV.v (Value.int IntKind.i64 (Int.ofNat 16)), AV.v (Value.int IntKind.i64 (Int.ofNat 8))])).a Cnd.t)).a (((Cnd.p (Wk (AV.v (Value.bool true)) (AV.lit true))).a Cnd.t).a (((Cnd.p (s.size ≤ 281474976710656)).a Cnd.t).a Cnd.t))) := by kernel_rfl
end
end Go.Proofs.YtpijbbobejeemaaGreatDoor.Htp

/- Http: strconv.ParseUint at two digits in base 16. -/
set_option linter.unusedVariables false
set_option linter.unusedSimpArgs false
set_option maxRecDepth 100000
namespace Go.Proofs.YtpijbbobejeemaaGreatDoor.Htp
open Go Go.RowKit Go.Proofs.YtpijbbobejeemaaGreatDoor.Eng Go.Proofs.YtpijbbobejeemaaGreatDoor.Kit
structure LW2 (W : World) : Prop extends LW W where
  errS : ∃ te pe, W.cell? ⟨2, 0, none⟩ = some (.iface te pe)
theorem gTE_spec (A : List AV) (p : ByteArray × ByteArray) (h : gTE A = some p) : ∃ b c, A = [.v (.string p.1), .v (.string p.2), .v (.int .i64 b), .v (.int .i64 c), .iface 138 (.v (.int .i64 2))] := by
  unfold gTE at h
  split at h
  · rename_i a s b c t z
    split at h
    · rename_i ht
      split at h
      · rename_i k
        split at h
        · rename_i hk
          cases h
          rw [Nat.eq_of_beq_eq_true ht, Nat.eq_of_beq_eq_true hk]
          exact ⟨b, c, rfl⟩
        · cases h
      · cases h
    · cases h
  · cases h
theorem cTE_ok {W : World} {F : HP} (hW : LW2 W) (hF : OldOK W F) : C1OK Tryz.prog F fTE cTE := by
  intro st W0 N h0 w A vargs v h' n n' lg lg' c q hp he hc r ha hf
  unfold cTE at hp
  split at hp
  · rename_i p hg1
    cases hp
    obtain ⟨c1, e1, rfl⟩ := run_need he
    obtain ⟨rfl, rfl, rfl⟩ := inv_ret e1
    obtain ⟨hpre, hc1⟩ := (Cnd.and_iff _ _).1 hc
    obtain ⟨b, d, rfl⟩ := gTE_spec _ _ hg1
    obtain ⟨y1, r1, h1, ⟨y2, r2, h2, ⟨y3, r3, h3, ⟨y4, r4, h4, ⟨y5, r5, ⟨z, hz, rfl⟩, rfl, rfl⟩, rfl⟩, rfl⟩, rfl⟩, hl⟩ := (by simpa only [VRs, VR] using ha)
    subst h1 h2 h3 h4 hz
    have hva : vargs = #[.string p.1, .string p.2, .int .i64 b, .int .i64 d, .iface 138 (.int .i64 2)] := by
      apply Array.ext'
      rw [hl]
    subst hva
    obtain ⟨D0, D, p1, p2, p3⟩ := r.sat
    obtain ⟨te, pe, hev⟩ := hW.errS
    have hw : Stays W w := hF D0 w p1
    refine (Tryz.strconv_toError_syntax p.1 p.2 b d _ w hpre (hw.cell hev) (.inr ⟨te, pe, rfl⟩)).mono ?_
    rintro e w' ⟨N1, rfl, _, _, hb⟩
    refine ⟨_, N, rfl, r.below hb, ?_, fun _ _ => rfl⟩
    simp only [VR]
    exact ⟨_, trivial, rfl⟩
  · cases hp
    cases he
theorem u8_in {n : Nat} (h : n < 256) : IntKind.u8.wrap (Int.ofNat n) = Int.ofNat n := IntWalk.u8_in _ (by simp only [Int.ofNat_eq_natCast]; omega)
theorem u8_sub {a b : Nat} (h : b ≤ a) (ha : a < 256) : IntKind.u8.wrap (Int.ofNat a - Int.ofNat b) = Int.ofNat (a - b) := by
  have : Int.ofNat a - Int.ofNat b = Int.ofNat (a - b) := by simp only [Int.ofNat_eq_natCast]; omega
  rw [this, u8_in (by omega)]
theorem u8_add {a b : Nat} (h : a + b < 256) : IntKind.u8.wrap (Int.ofNat a + Int.ofNat b) = Int.ofNat (a + b) := by
  have : Int.ofNat a + Int.ofNat b = Int.ofNat (a + b) := by simp
  rw [this, u8_in h]
theorem bv8 (m : Nat) : (BitVec.ofInt 8 (Int.ofNat m)).toNat = m % 256 := by
  rw [BitVec.toNat_ofInt]
  simp only [Int.ofNat_eq_natCast]
  omega
theorem or_lt : ∀ c : Fin 256, c.1 ||| 32 < 256 := by decide +kernel
theorem u8_lower (c : UInt8) : IntKind.u8.wrap ↑(BitVec.ofInt 8 ↑c.toNat ||| BitVec.ofInt 8 (Int.ofNat 32)).toNat = Int.ofNat (c.toNat ||| 32) := by
  have hc := c.toNat_lt
  have h2 := or_lt ⟨c.toNat, hc⟩
  rw [BitVec.toNat_or]
  have h1 : (BitVec.ofInt 8 (c.toNat : Int)).toNat = c.toNat := by have := bv8 c.toNat; simp only [Int.ofNat_eq_natCast] at this; rw [this]; omega
  rw [h1, bv8]
  exact u8_in h2
theorem u64_in {n : Nat} (h : n < 18446744073709551616) : IntKind.u64.wrap (Int.ofNat n) = Int.ofNat n := IntWalk.u64_in _ (by simp only [Int.ofNat_eq_natCast]; omega)
theorem u64_mul {a b : Nat} (h : a * b < 18446744073709551616) : IntKind.u64.wrap (Int.ofNat a * Int.ofNat b) = Int.ofNat (a * b) := by
  have : Int.ofNat a * Int.ofNat b = Int.ofNat (a * b) := by simp
  rw [this, u64_in h]
theorem u64_add {a b : Nat} (h : a + b < 18446744073709551616) : IntKind.u64.wrap (Int.ofNat a + Int.ofNat b) = Int.ofNat (a + b) := by
  have : Int.ofNat a + Int.ofNat b = Int.ofNat (a + b) := by simp
  rw [this, u64_in h]
theorem cls : ∀ c : Fin 256, (c.1 ≠ 95 ∧ 48 ≤ c.1 ∧ c.1 ≤ 57 ∧ hexV (UInt8.ofNat c.1) = some (c.1 - 48)) ∨
    (c.1 ≠ 95 ∧ 57 < c.1 ∧ 97 ≤ c.1 ||| 32 ∧ c.1 ||| 32 ≤ 122 ∧ (c.1 ||| 32) - 97 + 10 < 16 ∧ hexV (UInt8.ofNat c.1) = some ((c.1 ||| 32) - 97 + 10)) ∨
    (c.1 ≠ 95 ∧ 57 < c.1 ∧ 97 ≤ c.1 ||| 32 ∧ c.1 ||| 32 ≤ 122 ∧ 16 ≤ (c.1 ||| 32) - 97 + 10 ∧ hexV (UInt8.ofNat c.1) = none) ∨
    (c.1 ≠ 95 ∧ c.1 < 48 ∧ c.1 ||| 32 < 97 ∧ hexV (UInt8.ofNat c.1) = none) ∨
    (c.1 ≠ 95 ∧ 57 < c.1 ∧ c.1 ||| 32 < 97 ∧ hexV (UInt8.ofNat c.1) = none) ∨
    (c.1 ≠ 95 ∧ 57 < c.1 ∧ 97 ≤ c.1 ||| 32 ∧ 122 < c.1 ||| 32 ∧ hexV (UInt8.ofNat c.1) = none) ∨
    (c.1 = 95 ∧ 57 < c.1 ∧ 97 ≤ c.1 ||| 32 ∧ 122 < c.1 ||| 32 ∧ hexV (UInt8.ofNat c.1) = none) := by decide +kernel
theorem pgtF {a b : Nat} (h : a ≤ b) : decide (Int.ofNat a > Int.ofNat b) = false := decide_eq_false (by simp only [Int.ofNat_eq_natCast]; omega)
theorem leT {a b : Nat} (h : a ≤ b) : decide ((a : Int) ≤ (b : Int)) = true := decide_eq_true (by omega)
theorem leF {a b : Nat} (h : b < a) : decide ((a : Int) ≤ (b : Int)) = false := decide_eq_false (by omega)
theorem eqT {a b : Nat} (h : a = b) : ((a : Int) == (b : Int)) = true := by subst h; simp
theorem eqF {a b : Nat} (h : a ≠ b) : ((a : Int) == (b : Int)) = false := by rw [beq_eq_false_iff_ne]; omega
def hexAll : List UInt8 → Nat → Option Nat
  | [], n => some n
  | c :: l, n => match hexV c with
    | some d => hexAll l (n * 16 + d)
    | none => none
theorem hexV_lt {c : UInt8} {d : Nat} (h : hexV c = some d) : d < 16 := by
  have key : ∀ c : Fin 256, ∀ d, hexV (UInt8.ofNat c.1) = some d → d < 16 := by
    intro c d h
    unfold hexV at h
    split at h
    · cases h; omega
    · split at h
      · cases h; omega
      · split at h
        · cases h; omega
        · cases h
  have := key ⟨c.toNat, c.toNat_lt⟩ d
  simp only [UInt8.ofNat_toNat] at this
  exact this h
theorem gPU_ro : ∀ args, RO (gPU args) := by
  intro args
  unfold gPU
  split
  · exact RO.ret _
  · exact RO.fail _
theorem pu_digit {L : List UInt8} {n i k d : Nat} (hk : k = L.length) (h1 : i < k) (hkb : k ≤ 100) (hd : hexV (L.getD i 0) = some d) (hn : n * 16 + d ≤ 255) : ∃ (c : UInt8) (hints : ClaimT), ∀ F, VAll (fun r os _ => r.2.2 = 172 ∧ (r.1 = .normal ∧ ∃ l, FitT [1000] iPU r.2.1 os (aPU (n * 16 + d) k (i + 1)) [(1000, rB1 L)] l)) (wLoop [] hints [] default fPU (loopN fPU 36) (tms 0 172 (aPU n k i)) [(1000, rB1 L)] [1000] iPU F) := by
  subst hk
  have hw := wrap_succ i (by omega)
  have e1 := ltTN h1
  have g1 := rB_get L i h1
  have g2 := rB_lt L i h1
  generalize L.getD i 0 = c at *
  have hc := c.toNat_lt
  have hl := u8_lower c
  have hd16 := hexV_lt hd
  have m1 := u64_mul (a := n) (b := 16) (by omega)
  have m2 := u64_in (n := d) (by omega)
  have m3 := u64_add (a := n * 16) (b := d) (by omega)
  have f1 := geF (a := d) (b := 16) hd16
  have f2 := geF (a := n) (b := 1152921504606846976) (by omega)
  have f3 := ltF (a := n * 16 + d) (b := n * 16) (by omega)
  have f4 := pgtF (a := n * 16 + d) (b := 255) hn
  generalize n * 16 + d = n' at *
  generalize n * 16 = m at *
  refine ⟨c, ?_⟩
  rcases cls ⟨c.toNat, hc⟩ with h | h | h | h | h | h | h <;> simp only [UInt8.ofNat_toNat] at h
  · obtain ⟨c0, c1, c2, c3⟩ := h
    rw [hd] at c3
    have hdd := Option.some.inj c3
    have m4 := u8_sub (a := c.toNat) (b := 48) c1 hc
    rw [← hdd] at m4
    refine ⟨hPU c 0 0 d m n' i false true true true false false false false, fun F => ?_⟩
    refine cast (congrArg (VAll _) (oPuD_eq L c 0 0 d m n n' L.length i F).symm) ⟨⟨?_, rfl, rfl, [(1000, 1000)], by kernel_rfl, by kernel_rfl, ⟨Wk.refl _, Wk.refl _, Wk.refl _, Wk.refl _, Wk.refl _, Wk.refl _, Wk.refl _, Wk.refl _, Wk.refl _, trivial⟩, ⟨_, rfl, rB1_ow rfl rfl⟩, trivial⟩⟩
    simp only [Cnd.holds, e1, g1, g2, h1, byv, AV.intOf, Nat.blt_eq, true_and, and_true]
    and_intros
    all_goals first
      | (with_reducible exact wk_int hw)
      | exact wk_u8 m4
      | exact wk_litE (eqF c0)
      | exact wk_litE (leT c1)
      | exact wk_litE (leT c2)
      | exact wk_litE f1
      | exact wk_litE f2
      | exact wk_litE f3
      | exact wk_litE f4
      | (exact Wk.of_eq (by rw [m1]))
      | (exact Wk.of_eq (by rw [m2]))
      | (exact Wk.of_eq (by rw [m3]))
      | (with_reducible exact trivial)
      | (with_reducible exact rfl)
      | (with_reducible exact Wk.refl _)
      | (with_reducible exact VW.refl _)
      | (with_reducible exact OW.refl _)
      | (with_reducible exact wk_lit _)
      | (with_reducible assumption)
      | exact rfl
      | exact Wk.refl _
      | exact VW.refl _
      | exact OW.refl _
      | ((repeat (first | exact VW.nil | refine VW.cons (Wk.refl _) ?_ | refine VW.cons (Wk.any _) ?_ | refine VW.cons (wk_cap (Nat.le_refl _)) ?_)); done)
  · obtain ⟨c0, c1, c2, c3, c4, c5⟩ := h
    rw [hd] at c5
    have hdd := Option.some.inj c5
    generalize c.toNat ||| 32 = l at *
    have m4 := u8_sub (a := l) (b := 97) c2 (by omega)
    have m5 := u8_add (a := l - 97) (b := 10) (by omega)
    rw [← hdd] at m5
    generalize l - 97 = e at *
    refine ⟨hPU c l e d m n' i false true false false true true true false, fun F => ?_⟩
    refine cast (congrArg (VAll _) (oPuL_eq L c l e d m n n' L.length i F).symm) ⟨⟨?_, rfl, rfl, [(1000, 1000)], by kernel_rfl, by kernel_rfl, ⟨Wk.refl _, Wk.refl _, Wk.refl _, Wk.refl _, Wk.refl _, Wk.refl _, Wk.refl _, Wk.refl _, Wk.refl _, trivial⟩, ⟨_, rfl, rB1_ow rfl rfl⟩, trivial⟩⟩
    simp only [Cnd.holds, e1, g1, g2, h1, byv, AV.intOf, Nat.blt_eq, true_and, and_true]
    and_intros
    all_goals first
      | (with_reducible exact wk_int hw)
      | exact wk_u8 m4
      | exact wk_u8 m5
      | exact wk_u8 hl
      | exact wk_litE (eqF c0)
      | exact wk_litE (leT (by omega))
      | exact wk_litE (leF c1)
      | exact wk_litE (leT c2)
      | exact wk_litE (leT c3)
      | exact wk_litE f1
      | exact wk_litE f2
      | exact wk_litE f3
      | exact wk_litE f4
      | (exact Wk.of_eq (by rw [m1]))
      | (exact Wk.of_eq (by rw [m2]))
      | (exact Wk.of_eq (by rw [m3]))
      | (with_reducible exact trivial)
      | (with_reducible exact rfl)
      | (with_reducible exact Wk.refl _)
      | (with_reducible exact VW.refl _)
      | (with_reducible exact OW.refl _)
      | (with_reducible exact wk_lit _)
      | (with_reducible assumption)
      | exact rfl
      | exact Wk.refl _
      | exact VW.refl _
      | exact OW.refl _
      | ((repeat (first | exact VW.nil | refine VW.cons (Wk.refl _) ?_ | refine VW.cons (Wk.any _) ?_ | refine VW.cons (wk_cap (Nat.le_refl _)) ?_)); done)
  · rw [hd] at h; exact absurd h.2.2.2.2.2 (by simp)
  · rw [hd] at h; exact absurd h.2.2.2 (by simp)
  · rw [hd] at h; exact absurd h.2.2.2 (by simp)
  · rw [hd] at h; exact absurd h.2.2.2.2 (by simp)
  · rw [hd] at h; exact absurd h.2.2.2.2 (by simp)
end Go.Proofs.YtpijbbobejeemaaGreatDoor.Htp

/- Http: strconv.ParseUint at two digits in base 16: loop and functions. -/
set_option linter.unusedVariables false
set_option linter.unusedSimpArgs false
set_option maxRecDepth 100000
namespace Go.Proofs.YtpijbbobejeemaaGreatDoor.Htp
open Go Go.RowKit Go.Proofs.YtpijbbobejeemaaGreatDoor.Eng Go.Proofs.YtpijbbobejeemaaGreatDoor.Kit
theorem VAll.mono {α : Type} {Q Q' : α → List (Option AO) → Nat → Prop} {v : VT α} (h : VAll Q v) (hq : ∀ a os n, Q a os n → Q' a os n) : VAll Q' v := ⟨VT.all_mono hq h.out⟩
theorem pu_bad {L : List UInt8} {n i k : Nat} (hk : k = L.length) (h1 : i < k) (hkb : k ≤ 100) (hd : hexV (L.getD i 0) = none) : ∃ (hints : ClaimT), ∀ F, VAll (fun r os _ => r.2.2 = 172 ∧ (r.1 = .ret ∧ ∃ l, FitT [1000] iPU r.2.1 os [(6, u64v 0), (7, errI)] [] l)) (wLoop [] hints [] default fPU (loopN fPU 36) (tms 0 172 (aPU n k i)) [(1000, rB1 L)] [1000] iPU F) := by
  subst hk
  have e1 := ltTN h1
  have g1 := rB_get L i h1
  have g2 := rB_lt L i h1
  generalize L.getD i 0 = c at *
  have hc := c.toNat_lt
  have hl := u8_lower c
  have ho := or_lt ⟨c.toNat, hc⟩
  simp only at ho
  rcases cls ⟨c.toNat, hc⟩ with h | h | h | h | h | h | h <;> simp only [UInt8.ofNat_toNat] at h
  · rw [hd] at h; exact absurd h.2.2.2 (by simp)
  · rw [hd] at h; exact absurd h.2.2.2.2.2 (by simp)
  · obtain ⟨c0, c1, c2, c3, c4, c5⟩ := h
    generalize c.toNat ||| 32 = l at *
    have m4 := u8_sub (a := l) (b := 97) c2 ho
    have m5 := u8_add (a := l - 97) (b := 10) (by omega)
    generalize hd' : l - 97 + 10 = d at *
    generalize l - 97 = e at *
    have f1 := geT (a := d) (b := 16) c4
    refine ⟨hPU c l e d 0 0 i false true false false true true true true, fun F => ?_⟩
    refine cast (congrArg (VAll _) (oPuG_eq L c l e d 0 n 0 L.length i F).symm) ⟨⟨?_, rfl, rfl, [], by kernel_rfl, by kernel_rfl, ⟨Wk.refl _, Wk.refl _, trivial⟩, trivial⟩⟩
    simp only [Cnd.holds, e1, g1, g2, h1, byv, AV.intOf, Nat.blt_eq, true_and, and_true]
    and_intros
    all_goals first
      | exact wk_u8 m4
      | exact wk_u8 m5
      | exact wk_u8 hl
      | exact wk_litE (eqF c0)
      | exact wk_litE (leT (by omega))
      | exact wk_litE (leF c1)
      | exact wk_litE (leT c2)
      | exact wk_litE (leT c3)
      | exact wk_litE f1
      | (with_reducible exact trivial)
      | (with_reducible exact rfl)
      | (with_reducible exact Wk.refl _)
      | (with_reducible exact VW.refl _)
      | (with_reducible exact OW.refl _)
      | (with_reducible exact wk_lit _)
      | (with_reducible assumption)
      | exact rfl
      | exact Wk.refl _
      | exact VW.refl _
      | exact OW.refl _
      | ((repeat (first | exact VW.nil | refine VW.cons (Wk.refl _) ?_ | refine VW.cons (Wk.any _) ?_ | refine VW.cons (wk_cap (Nat.le_refl _)) ?_)); done)
  · obtain ⟨c0, c1, c2, c3⟩ := h
    generalize c.toNat ||| 32 = l at *
    refine ⟨hPU c l 0 0 0 0 i false false false false false false false false, fun F => ?_⟩
    refine cast (congrArg (VAll _) (oPu1_eq L c l 0 0 0 n 0 L.length i F).symm) ⟨⟨?_, rfl, rfl, [], by kernel_rfl, by kernel_rfl, ⟨Wk.refl _, Wk.refl _, trivial⟩, trivial⟩⟩
    simp only [Cnd.holds, e1, g1, g2, h1, byv, AV.intOf, Nat.blt_eq, true_and, and_true]
    and_intros
    all_goals first
      | exact wk_u8 hl
      | exact wk_litE (eqF c0)
      | exact wk_litE (leF c1)
      | exact wk_litE (leF c2)
      | (with_reducible exact trivial)
      | (with_reducible exact rfl)
      | (with_reducible exact Wk.refl _)
      | (with_reducible exact VW.refl _)
      | (with_reducible exact OW.refl _)
      | (with_reducible exact wk_lit _)
      | (with_reducible assumption)
      | exact rfl
      | exact Wk.refl _
      | exact VW.refl _
      | exact OW.refl _
      | ((repeat (first | exact VW.nil | refine VW.cons (Wk.refl _) ?_ | refine VW.cons (Wk.any _) ?_ | refine VW.cons (wk_cap (Nat.le_refl _)) ?_)); done)
  · obtain ⟨c0, c1, c2, c3⟩ := h
    generalize c.toNat ||| 32 = l at *
    refine ⟨hPU c l 0 0 0 0 i false true false false false false false false, fun F => ?_⟩
    refine cast (congrArg (VAll _) (oPu2_eq L c l 0 0 0 n 0 L.length i F).symm) ⟨⟨?_, rfl, rfl, [], by kernel_rfl, by kernel_rfl, ⟨Wk.refl _, Wk.refl _, trivial⟩, trivial⟩⟩
    simp only [Cnd.holds, e1, g1, g2, h1, byv, AV.intOf, Nat.blt_eq, true_and, and_true]
    and_intros
    all_goals first
      | exact wk_u8 hl
      | exact wk_litE (eqF c0)
      | exact wk_litE (leT (by omega))
      | exact wk_litE (leF c1)
      | exact wk_litE (leF c2)
      | (with_reducible exact trivial)
      | (with_reducible exact rfl)
      | (with_reducible exact Wk.refl _)
      | (with_reducible exact VW.refl _)
      | (with_reducible exact OW.refl _)
      | (with_reducible exact wk_lit _)
      | (with_reducible assumption)
      | exact rfl
      | exact Wk.refl _
      | exact VW.refl _
      | exact OW.refl _
      | ((repeat (first | exact VW.nil | refine VW.cons (Wk.refl _) ?_ | refine VW.cons (Wk.any _) ?_ | refine VW.cons (wk_cap (Nat.le_refl _)) ?_)); done)
  · obtain ⟨c0, c1, c2, c3, c4⟩ := h
    generalize c.toNat ||| 32 = l at *
    refine ⟨hPU c l 0 0 0 0 i false true false false true false false false, fun F => ?_⟩
    refine cast (congrArg (VAll _) (oPu3_eq L c l 0 0 0 n 0 L.length i F).symm) ⟨⟨?_, rfl, rfl, [], by kernel_rfl, by kernel_rfl, ⟨Wk.refl _, Wk.refl _, trivial⟩, trivial⟩⟩
    simp only [Cnd.holds, e1, g1, g2, h1, byv, AV.intOf, Nat.blt_eq, true_and, and_true]
    and_intros
    all_goals first
      | exact wk_u8 hl
      | exact wk_litE (eqF c0)
      | exact wk_litE (leT (by omega))
      | exact wk_litE (leF c1)
      | exact wk_litE (leT c2)
      | exact wk_litE (leF c3)
      | (with_reducible exact trivial)
      | (with_reducible exact rfl)
      | (with_reducible exact Wk.refl _)
      | (with_reducible exact VW.refl _)
      | (with_reducible exact OW.refl _)
      | (with_reducible exact wk_lit _)
      | (with_reducible assumption)
      | exact rfl
      | exact Wk.refl _
      | exact VW.refl _
      | exact OW.refl _
      | ((repeat (first | exact VW.nil | refine VW.cons (Wk.refl _) ?_ | refine VW.cons (Wk.any _) ?_ | refine VW.cons (wk_cap (Nat.le_refl _)) ?_)); done)
  · obtain ⟨c0, c1, c2, c3, c4⟩ := h
    generalize c.toNat ||| 32 = l at *
    refine ⟨hPU c l 0 0 0 0 i true true false false true false false false, fun F => ?_⟩
    refine cast (congrArg (VAll _) (oPu4_eq L c l 0 0 0 n 0 L.length i F).symm) ⟨⟨?_, rfl, rfl, [], by kernel_rfl, by kernel_rfl, ⟨Wk.refl _, Wk.refl _, trivial⟩, trivial⟩⟩
    simp only [Cnd.holds, e1, g1, g2, h1, byv, AV.intOf, Nat.blt_eq, true_and, and_true]
    and_intros
    all_goals first
      | exact wk_u8 hl
      | exact wk_litE (eqT c0)
      | exact wk_litE (leT (by omega))
      | exact wk_litE (leF c1)
      | exact wk_litE (leT c2)
      | exact wk_litE (leF c3)
      | (with_reducible exact trivial)
      | (with_reducible exact rfl)
      | (with_reducible exact Wk.refl _)
      | (with_reducible exact VW.refl _)
      | (with_reducible exact OW.refl _)
      | (with_reducible exact wk_lit _)
      | (with_reducible assumption)
      | exact rfl
      | exact Wk.refl _
      | exact VW.refl _
      | exact OW.refl _
      | ((repeat (first | exact VW.nil | refine VW.cons (Wk.refl _) ?_ | refine VW.cons (Wk.any _) ?_ | refine VW.cons (wk_cap (Nat.le_refl _)) ?_)); done)
def pref (L : List UInt8) (i : Nat) : Option Nat := hexAll (L.take i) 0
theorem hexAll_app : ∀ (l r : List UInt8) (n : Nat), hexAll (l ++ r) n = (hexAll l n).bind (hexAll r)
  | [], r, n => rfl
  | c :: l, r, n => by
    rw [List.cons_append, hexAll, hexAll]
    cases hexV c with
    | none => rfl
    | some d => exact hexAll_app l r _
theorem pref_succ (L : List UInt8) (i : Nat) (h : i < L.length) : pref L (i + 1) = (pref L i).bind fun n => (hexV (L.getD i 0)).map fun d => n * 16 + d := by
  unfold pref
  rw [take_next L 0 i h, hexAll_app]
  congr 1
  funext n
  rw [hexAll]
  cases hexV (L.getD i 0) <;> rfl
theorem pref_two {L : List UInt8} (h2 : L.length = 2) : ∀ i n, i ≤ 2 → pref L i = some n → n < 16 ^ i
  | 0, n, _, h => by simp [pref, hexAll] at h; subst h; decide
  | i + 1, n, hi, h => by
    rw [pref_succ L i (by omega)] at h
    cases hp : pref L i with
    | none => rw [hp] at h; cases h
    | some m =>
      rw [hp] at h
      simp only [Option.bind_some] at h
      cases hv : hexV (L.getD i 0) with
      | none => rw [hv] at h; cases h
      | some d =>
        rw [hv] at h
        have : m * 16 + d = n := Option.some.inj h
        have h1 := pref_two h2 i m (by omega) hp
        have h3 := hexV_lt hv
        rw [Nat.pow_succ]
        omega
theorem pu_loop {L : List UInt8} (h2 : L.length = 2) {N : Nat} (hN : pref L 2 = some N) :
    LTri Tryz.prog default (loopN fPU 36) (tms 0 172 (aPU 0 2 0)) [(1000, rB1 L)] (.exit 3) (tms 0 172 [(12, bv false), (13, u64v N)]) [] := by
  refine ltri_run (W := default) (g := fPU) (b := loopN fPU 36) (σ := {q : Nat × Nat // q.1 ≤ 2 ∧ pref L q.1 = some q.2}) 172 (fun q => aPU q.1.2 2 q.1.1) (fun q => [(1000, rB1 L)]) (.exit 3) _ [] (fun q => 2 - q.1.1) [1000] iPU (by intro h; cases h) (fun _ => rfl) rfl ?_ ⟨(0, 0), Nat.zero_le _, rfl⟩
  rintro ⟨⟨i, n⟩, hi, hp⟩
  simp only at hi hp
  simp only
  by_cases h1 : i < 2
  · have hn := pref_two h2 i n hi hp
    cases hv : hexV (L.getD i 0) with
    | none =>
      have h3 : pref L (i + 1) = none := by rw [pref_succ L i (by omega), hp, hv]; rfl
      exfalso
      have : i = 0 ∨ i = 1 := by omega
      rcases this with rfl | rfl
      · have h4 := pref_succ L 1 (by omega)
        rw [h3] at h4
        rw [hN] at h4
        cases h4
      · rw [hN] at h3; cases h3
    | some d =>
      have h3 : pref L (i + 1) = some (n * 16 + d) := by rw [pref_succ L i (by omega), hp, hv]; rfl
      have hb := pref_two h2 (i + 1) _ (by omega) h3
      have hb2 : n * 16 + d ≤ 255 := by
        have : i = 0 ∨ i = 1 := by omega
        rcases this with rfl | rfl
        · have : (16 : Nat) ^ (0 + 1) = 16 := rfl
          omega
        · have : (16 : Nat) ^ (1 + 1) = 256 := rfl
          omega
      obtain ⟨c, hints, hh⟩ := pu_digit (L := L) (n := n) (i := i) (k := 2) (d := d) h2.symm h1 (by decide) hv hb2
      refine ⟨[], hints, [], fun _ _ => noC, fun _ _ => noL, fun F => VAll.mono (hh F) ?_⟩
      rintro r os m ⟨q1, q2, l, q3⟩
      exact ⟨q1, .inl ⟨q2, ⟨(i + 1, n * 16 + d), h1, h3⟩, by show 2 - (i + 1) < 2 - i; omega, l, q3⟩⟩
  · have hie : i = 2 := by omega
    subst hie
    rw [hN] at hp
    have hn := Option.some.inj hp
    subst hn
    refine ⟨[], hintL [(fPU, 36, 0, hv (.lit false))], [], fun _ _ => noC, fun _ _ => noL, fun F => ?_⟩
    refine cast (congrArg (VAll _) (oPuE_eq L N 2 F).symm) ⟨⟨?_, rfl, .inr ⟨rfl, [], by kernel_rfl, by kernel_rfl, ⟨Wk.refl _, Wk.refl _, trivial⟩, trivial⟩⟩⟩
    simp only [Cnd.holds, and_true]
    exact wk_litE (ltFN (Nat.le_refl _))
theorem pux_loop {L : List UInt8} (h2 : L.length = 2) (hN : pref L 2 = none) :
    LTri Tryz.prog default (loopN fPU 36) (tms 0 172 (aPU 0 2 0)) [(1000, rB1 L)] .ret (tms 0 172 [(6, u64v 0), (7, errI)]) [] := by
  refine ltri_run (W := default) (g := fPU) (b := loopN fPU 36) (σ := {q : Nat × Nat // q.1 ≤ 2 ∧ pref L q.1 = some q.2}) 172 (fun q => aPU q.1.2 2 q.1.1) (fun q => [(1000, rB1 L)]) .ret _ [] (fun q => 2 - q.1.1) [1000] iPU (by intro h; cases h) (fun _ => rfl) rfl ?_ ⟨(0, 0), Nat.zero_le _, rfl⟩
  rintro ⟨⟨i, n⟩, hi, hp⟩
  simp only at hi hp
  simp only
  by_cases h1 : i < 2
  · have hn := pref_two h2 i n hi hp
    cases hv : hexV (L.getD i 0) with
    | none =>
      obtain ⟨hints, hh⟩ := pu_bad (L := L) (n := n) (i := i) (k := 2) h2.symm h1 (by decide) hv
      refine ⟨[], hints, [], fun _ _ => noC, fun _ _ => noL, fun F => VAll.mono (hh F) ?_⟩
      rintro r os m ⟨q1, q2, l, q3⟩
      exact ⟨q1, .inr ⟨q2, l, q3⟩⟩
    | some d =>
      have h3 : pref L (i + 1) = some (n * 16 + d) := by rw [pref_succ L i (by omega), hp, hv]; rfl
      have hb := pref_two h2 (i + 1) _ (by omega) h3
      have hb2 : n * 16 + d ≤ 255 := by
        have : i = 0 ∨ i = 1 := by omega
        rcases this with rfl | rfl
        · have : (16 : Nat) ^ (0 + 1) = 16 := rfl
          omega
        · have : (16 : Nat) ^ (1 + 1) = 256 := rfl
          omega
      obtain ⟨c, hints, hh⟩ := pu_digit (L := L) (n := n) (i := i) (k := 2) (d := d) h2.symm h1 (by decide) hv hb2
      refine ⟨[], hints, [], fun _ _ => noC, fun _ _ => noL, fun F => VAll.mono (hh F) ?_⟩
      rintro r os m ⟨q1, q2, l, q3⟩
      exact ⟨q1, .inl ⟨q2, ⟨(i + 1, n * 16 + d), h1, h3⟩, by show 2 - (i + 1) < 2 - i; omega, l, q3⟩⟩
  · have hie : i = 2 := by omega
    subst hie
    rw [hN] at hp
    cases hp
theorem aPU_cl (L : List UInt8) (n k i : Nat) : ∀ x ∈ aPU n k i, AV.cl (kH [(1000, rB1 L)]) x.2 :=
  all_cons trivial (all_cons trivial (all_cons trivial (all_cons trivial (all_cons trivial (all_cons trivial (all_cons rfl (all_cons trivial (all_cons trivial all_nil))))))))
theorem ne_empty {s : ByteArray} (h : s.size = 2) : (s.toList == []) = false := by
  rw [beq_eq_false_iff_ne, ba_toList]
  intro e
  have := congrArg List.length e
  rw [ba_size, h] at this
  cases this
theorem PUi_tri (s : ByteArray) (h2 : s.size = 2) (res : AV) (hr : res = match pref s.data.toList 2 with | some n => .tuple [u64v n, .v .nilIface] | none => .tuple [u64v 0, errI]) : Tri Tryz.prog default fPU [sv s, iv (Int.ofNat 16), iv (Int.ofNat 8)] [] res [] := by
  have hl : s.data.toList.length = 2 := h2
  have hne := ne_empty h2
  cases hp : pref s.data.toList 2 with
  | some n =>
    rw [hp] at hr
    subst hr
    refine tri_run (con := []) (hints := hPUf s) (lc := [(fPU, 36, loopN fPU 36, lPU s.data.toList n 2)]) [] rfl (fun F _ => noC) (fun F _ => one_l (mkL_ok (W := default) oldDef gPU_ro (fun _ _ => pu_loop hl hp) fun _ => by
      simp only [RT.pick]
      exact closedT rfl rfl (aPU_cl _ _ _ _) (all_cons (rB1_cl _ _) all_nil) (all_cons trivial (all_cons trivial all_nil)) all_nil)) fun F => ?_
    refine cast (congrArg (VAll _) (oPF_eq s n 2 F).symm) ⟨⟨?_, (fit_mk (vs' := [.tuple [u64v n, .v .nilIface]]) (H' := []) [] rfl rfl (VW.refl _) trivial).fits rfl⟩⟩
    simp only [Cnd.holds, hne, h2, rens_rowV, Nat.blt_eq, true_and, and_true]
    and_intros
    all_goals first
      | exact ow_cells (rowB_map _).symm
      | (with_reducible exact trivial)
      | (with_reducible exact rfl)
      | (with_reducible exact Wk.refl _)
      | (with_reducible exact VW.refl _)
      | (with_reducible exact OW.refl _)
      | (with_reducible exact wk_lit _)
      | (with_reducible assumption)
      | exact rfl
      | exact Wk.refl _
      | exact VW.refl _
      | exact OW.refl _
      | ((repeat (first | exact VW.nil | refine VW.cons (Wk.refl _) ?_ | refine VW.cons (Wk.any _) ?_ | refine VW.cons (wk_cap (Nat.le_refl _)) ?_)); done)
  | none =>
    rw [hp] at hr
    subst hr
    refine tri_run (con := []) (hints := hPUf s) (lc := [(fPU, 36, loopN fPU 36, lPUx s.data.toList 2)]) [] rfl (fun F _ => noC) (fun F _ => one_l (mkL_ok (W := default) oldDef gPU_ro (fun _ _ => pux_loop hl hp) fun _ => by
      simp only [RT.pick]
      exact closedT rfl rfl (aPU_cl _ _ _ _) (all_cons (rB1_cl _ _) all_nil) (all_cons trivial (all_cons trivial all_nil)) all_nil)) fun F => ?_
    refine cast (congrArg (VAll _) (oPFx_eq s 2 F).symm) ⟨⟨?_, (fit_mk (vs' := [.tuple [u64v 0, errI]]) (H' := []) [] rfl rfl (VW.refl _) trivial).fits rfl⟩⟩
    simp only [Cnd.holds, hne, h2, rens_rowV, Nat.blt_eq, true_and, and_true]
    and_intros
    all_goals first
      | exact ow_cells (rowB_map _).symm
      | (with_reducible exact trivial)
      | (with_reducible exact rfl)
      | (with_reducible exact Wk.refl _)
      | (with_reducible exact VW.refl _)
      | (with_reducible exact OW.refl _)
      | (with_reducible exact wk_lit _)
      | (with_reducible assumption)
      | exact rfl
      | exact Wk.refl _
      | exact VW.refl _
      | exact OW.refl _
      | ((repeat (first | exact VW.nil | refine VW.cons (Wk.refl _) ?_ | refine VW.cons (Wk.any _) ?_ | refine VW.cons (wk_cap (Nat.le_refl _)) ?_)); done)
noncomputable def puV (s : ByteArray) : AV := match pref s.data.toList 2 with
  | some n => .tuple [u64v n, .v .nilIface]
  | none => errV
theorem PU_tri {W : World} (hW : LW2 W) (s : ByteArray) (h2 : s.size = 2) : Tri Tryz.prog W fPUs [sv s, iv (Int.ofNat 16), iv (Int.ofNat 8)] [] (puV s) [] := by
  have hi := PUi_tri s h2 _ rfl
  unfold puV
  cases hp : pref s.data.toList 2 with
  | some n =>
    rw [hp] at hi
    simp only at hi
    have key : Tri Tryz.prog default fPUs [sv s, iv (Int.ofNat 16), iv (Int.ofNat 8)] [] (.tuple [u64v n, .v .nilIface]) [] := by
      refine tri_run (con := [(fPU, cPUi s (.tuple [u64v n, .v .nilIface]))]) (hints := hintL [(fPUs, 2, 1, hv (.lit false))]) (lc := []) [] rfl (fun F _ => one_c (mkC_ok (W := default) oldDef (fun _ => .tuple [u64v n, .v .nilIface]) (fun _ => RO.ret _) (fun _ => rfl) (fun _ _ => hi) fun _ => ⟨rfl, rfl, ⟨trivial, trivial, trivial, trivial⟩, all_nil, ⟨⟨trivial, trivial, trivial⟩, trivial⟩, all_nil⟩)) (fun F _ => noL) fun F => ?_
      refine cast (congrArg (VAll _) (oPS_eq s n F).symm) ⟨⟨?_, (fit_mk (vs' := [.tuple [u64v n, .v .nilIface]]) (H' := []) [] rfl rfl (VW.refl _) trivial).fits rfl⟩⟩
      simp only [Cnd.holds, Nat.blt_eq, true_and, and_true]
      and_intros
      all_goals first
        | (with_reducible exact trivial)
        | (with_reducible exact rfl)
        | (with_reducible exact Wk.refl _)
        | (with_reducible exact VW.refl _)
        | (with_reducible exact OW.refl _)
        | (with_reducible exact wk_lit _)
        | (with_reducible assumption)
        | exact rfl
        | exact Wk.refl _
        | exact VW.refl _
        | exact OW.refl _
        | ((repeat (first | exact VW.nil | refine VW.cons (Wk.refl _) ?_ | refine VW.cons (Wk.any _) ?_ | refine VW.cons (wk_cap (Nat.le_refl _)) ?_)); done)
    exact fun W0 F N w vargs hF => key W0 F N w vargs (OldOK.nothing F)
  | none =>
    rw [hp] at hi
    simp only at hi
    refine tri_run (con := [(fPU, cPUi s (.tuple [u64v 0, errI])), (fTE, cTE)]) (hints := hintL [(fPUs, 2, 1, hv (.lit true))]) (lc := []) [] rfl (fun F hF => con_cons (mkC_ok (W := default) oldDef (fun _ => .tuple [u64v 0, errI]) (fun _ => RO.ret _) (fun _ => rfl) (fun _ _ => hi) fun _ => ⟨rfl, rfl, ⟨trivial, trivial, trivial, trivial⟩, all_nil, ⟨⟨trivial, trivial, trivial⟩, trivial⟩, all_nil⟩) (one_c (cTE_ok hW hF))) (fun F _ => noL) fun F => ?_
    refine cast (congrArg (VAll _) (oPSx_eq W s F).symm) ⟨⟨?_, (fit_mk (vs' := [errV]) (H' := []) [] rfl rfl (VW.refl _) trivial).fits rfl⟩⟩
    have q1 : s.size ≤ 281474976710656 := by omega
    simp only [Cnd.holds, q1, Nat.blt_eq, true_and, and_true]
    and_intros
    all_goals first
      | (with_reducible exact trivial)
      | (with_reducible exact rfl)
      | (with_reducible exact Wk.refl _)
      | (with_reducible exact VW.refl _)
      | (with_reducible exact OW.refl _)
      | (with_reducible exact wk_lit _)
      | (with_reducible assumption)
      | exact rfl
      | exact Wk.refl _
      | exact VW.refl _
      | exact OW.refl _
      | ((repeat (first | exact VW.nil | refine VW.cons (Wk.refl _) ?_ | refine VW.cons (Wk.any _) ?_ | refine VW.cons (wk_cap (Nat.le_refl _)) ?_)); done)
end Go.Proofs.YtpijbbobejeemaaGreatDoor.Htp

/- Http: strings.ContainsAny of two bytes at "+-_". -/
set_option linter.unusedVariables false
set_option linter.unusedSimpArgs false
set_option maxRecDepth 100000
namespace Go.Proofs.YtpijbbobejeemaaGreatDoor.Htp
open Go Go.RowKit
def pmu : ByteArray := ⟨#[43, 45, 95]⟩
theorem below_drew {B : Nat} {a w : World} (h : Below B a w) : Below B a w.drew := ⟨h.os, h.tape, h.output, h.size, h.block⟩
set_option maxHeartbeats 1000000 in
theorem vr_calls (r : Int) (h0 : 0 ≤ r) (h1 : r < 55296) (w : World) : Calls Tryz.prog 149 #[.int .i32 r] w fun e w' => e = .returned (.bool true) ∧ w' = w := by
  have e1 : decide ((0 : Int) ≤ r) = true := decide_eq_true h0
  have e2 : decide (r < (55296 : Int)) = true := decide_eq_true h1
  go_enter Tryz.func149, Tryz.ntmps149
  go_wp2
  go_ret
  exact ⟨rfl, rfl⟩
set_option maxHeartbeats 4000000 in
theorem ir_two (r : Int) (h0 : 128 ≤ r) (h1 : r ≤ 2047) (w : World) (s2 : ByteArray) (he : Utf8.encode r = s2) (x y : UInt8) (hs : s2 = ⟨#[y, x]⟩) (hx : 128 ≤ x.toNat) : Calls Tryz.prog 133 #[.string pmu, .int .i32 r] w fun e w' => e = .returned (.int .i64 (-1)) ∧ Below w.heap.size w w' := by
  have e1 : decide ((0 : Int) ≤ r) = true := decide_eq_true (by omega)
  have e2 : decide (r < (128 : Int)) = false := decide_eq_false (by omega)
  have e3 : (r == (65533 : Int)) = false := beq_eq_false_iff_ne.2 (by omega)
  subst hs
  have hp : pmu.size = 3 := rfl
  have hne : ((45 : Int) == (x.toNat : Int)) = false := beq_eq_false_iff_ne.2 (by omega)
  have hne3 : (((45 : Nat) : Int) == (x.toNat : Int)) = false := hne
  have hne2 : ((45 : Int) != (x.toNat : Int)) = true := by rw [bne, hne]; rfl
  have hp1 : pmu.data[1]? = some 45 := rfl
  have hs2 : (ByteArray.mk #[y, x]).size = 2 := rfl
  go_enter Tryz.func133, Tryz.ntmps133
  go_wp2_with (go_at_call 149; refine (vr_calls _ (by omega) (by omega) _).mono ?_; rintro e w' ⟨rfl, rfl⟩)
  apply wp_scope_straight
  go_wp2
  refine wp_loop_rounds 1 ?_
  rw [rounds_succ]
  go_wp2
  apply wp_scope_straight
  go_wp2
  go_region
  have q1 : (pmu[1]'(by decide)).toNat = 45 := rfl
  have q2 : (ByteArray.mk #[y, x])[1]'(Nat.lt_succ_self 1) = x := rfl
  simp only [q1, q2]
  go_wp2
  have q3 : Lib.indexByte (List.take 1 (List.drop 2 pmu.data.toList)) x = -1 := by
    have hx1 : x ≠ 95 := fun e => by rw [e] at hx; exact absurd hx (by decide)
    show Lib.indexByte [95] x = -1
    simp [Lib.indexByte, Ne.symm hx1]
  go_region_with (go_at_call 71; refine (Tryz.strings_IndexByte _ _ _).mono ?_; rintro e w' ⟨rfl, rfl⟩)
  go_wp2
  all_goals
    simp only [Exit.noGoto_ret, Exit.inBlock, Exit.then]
    go_ret
    first
      | exact ⟨rfl, below_drew (below_drew (Below.refl _ _))⟩
      | exact ⟨rfl, below_drew (Below.refl _ _)⟩
set_option maxHeartbeats 4000000 in
theorem ir_err (w : World) : Calls Tryz.prog 133 #[.string pmu, .int .i32 65533] w fun e w' => e = .returned (.int .i64 (-1)) ∧ Below w.heap.size w w' := by
  have hp : pmu.size = 3 := rfl
  go_enter Tryz.func133, Tryz.ntmps133
  go_wp2
  go_loopg [5, 6] 3 (fun g _ _ wx => ∃ i : Nat, i + g = 3 ∧ wx = w.iter pmu i)
  case atStart => exact ⟨0, rfl, rfl⟩
  case round =>
    obtain ⟨i, hig, rfl⟩ := hrel
    cases gk with
    | zero =>
      obtain rfl : i = 3 := by omega
      have hnx := run_next_end (P := Tryz.prog) w pmu 3
      go_wp2
      go_ret
      exact ⟨rfl, (Below.refl _ _).alloc (Nat.le_refl _) _⟩
    | succ g =>
      have hi : i < pmu.size := by omega
      obtain ⟨x, hx⟩ : ∃ x : UInt8, pmu[i]'hi = x := ⟨_, rfl⟩
      have hx128 : x.toNat < 128 := by
        have : i = 0 ∨ i = 1 ∨ i = 2 := by omega
        rcases this with rfl | rfl | rfl <;> (subst hx; show _ < 128; first | exact (by decide : (43 : UInt8).toNat < 128) | exact (by decide : (45 : UInt8).toNat < 128) | exact (by decide : (95 : UInt8).toNat < 128))
      have hnx := fun ty => run_next_ascii (P := Tryz.prog) w pmu i ty hi (by rw [hx]; exact hx128)
      rw [hx] at hnx
      have hne : ((x.toNat : Int) == 65533) = false := beq_eq_false_iff_ne.2 (by omega)
      go_wp2
      go_roundg g
      case measure => omega
      case rel => exact ⟨i + 1, by omega, rfl⟩
end Go.Proofs.YtpijbbobejeemaaGreatDoor.Htp

