/- Parts of the proof, merged. -/
import Derived.Test.YtpijbbobejeemaaGreatDoorEngLoopE
import Derived.Test.YtpijbbobejeemaaGreatDoorEngKit3
import Derived.Test.YtpijbbobejeemaaGreatDoorEngCon
import Derived.Test.YtpijbbobejeemaaGreatDoorEngRow
import Derived.Test.YtpijbbobejeemaaGreatDoorEngKit
import Derived.Lib.LaidTab
import Derived.Test.YtpijbbobejeemaaGreatDoorShelf
import Derived.Lib.AppendIntMem
import Derived.Test.YtpijbbobejeemaaGreatDoorEngClosedC
import Derived.Laws.Externs
import Derived.Test.YtpijbbobejeemaaGreatDoorMem
import Derived.Deep.Slices
import Derived.SizedLaws
import Derived.Test.YtpijbbobejeemaaGreatDoorRows
import Derived.Deep.DeepHandedRow
import Derived.Lay
import Derived.Lib.ItoaLen
/- Code in pieces: behind a piece the state is one of many, which one is known in the world alone. No program. -/
set_option linter.unusedVariables false
set_option linter.unusedSimpArgs false
namespace Go.Proofs.YtpijbbobejeemaaGreatDoor.Eng
open Go Go.RowKit
def CTri (P : Program) (W : World) (cd : Code) (A : List AV) (H : LH) {ρ : Type} (ax : ρ → AX) (A' : ρ → List AV) (H' : ρ → LH) : Prop :=
  ∀ (W0 : World) (F : HP) (N : Names) (w : World) (a : Act) (Q : Exit → Act → World → Prop), OldOK W F → NB N H → Rep W0 N F (heapOf H) w → VRs N A a.tmps.toList →
    (∀ r a' w', St W0 F N (H' r) (A' r) a'.tmps.toList w' → a'.defers = a.defers → Q (exitOf (ax r)) a' w') → cd.wp P Q a w
section
variable {P : Program} {W : World} {ρ σ : Type}
theorem CTri.pre {cd : Code} {A A1 : List AV} {H H1 : LH} {ax : ρ → AX} {A' : ρ → List AV} {H' : ρ → LH} (h : CTri P W cd A1 H1 ax A' H') (hg : Goes A H A1 H1) : CTri P W cd A H ax A' H' := by
  intro W0 F N w a Q hF hN r ha hK
  obtain ⟨N1, g1, g2, g3, g4⟩ := hg W0 F N _ _ ⟨N, fun _ _ => rfl, hN, r, ha⟩
  exact h W0 F N1 w a Q hF g2 g3 g4 fun q a' w' ⟨N2, k1, k2, k3, k4⟩ hd => hK q a' w' ⟨N2, fun i hi => (k1 i hi).trans (g1 i hi), k2, k3, k4⟩ hd
theorem CTri.post {cd : Code} {A : List AV} {H : LH} {ax : ρ → AX} {A' : ρ → List AV} {H' : ρ → LH} {ρ2 : Type} {ax2 : ρ2 → AX} {A2 : ρ2 → List AV} {H2 : ρ2 → LH} (h : CTri P W cd A H ax A' H') (hg : ∀ r, ∃ r2, ax2 r2 = ax r ∧ Goes (A' r) (H' r) (A2 r2) (H2 r2)) : CTri P W cd A H ax2 A2 H2 := by
  intro W0 F N w a Q hF hN r ha hK
  refine h W0 F N w a Q hF hN r ha fun q a' w' hs hd => ?_
  obtain ⟨r2, e, hg⟩ := hg q
  rw [← e]
  exact hK r2 a' w' (hg _ _ _ _ _ hs) hd
theorem CTri.seq {c1 c2 : Code} {A : List AV} {H : LH} {A1 : σ → List AV} {H1 : σ → LH} {ax : ρ → AX} {A' : ρ → List AV} {H' : ρ → LH} (h1 : CTri P W c1 A H (fun _ : σ => .normal) A1 H1) (h2 : ∀ s, CTri P W c2 (A1 s) (H1 s) ax A' H') : CTri P W (.seq c1 c2) A H ax A' H' := by
  intro W0 F N w a Q hF hN r ha hK
  refine wp_seq (h1 W0 F N w a _ hF hN r ha fun s a' w' hs hd => ?_)
  obtain ⟨N1, g1, g2, g3, g4⟩ := hs
  exact h2 s W0 F N1 w' a' Q hF g2 g3 g4 fun q a2 w2 ⟨N2, k1, k2, k3, k4⟩ hd2 => hK q a2 w2 ⟨N2, fun i hi => (k1 i hi).trans (g1 i hi), k2, k3, k4⟩ (hd2.trans hd)
theorem CTri.block {c : Code} {id : Nat} {A : List AV} {H : LH} {A' : ρ → List AV} {H' : ρ → LH} (h : CTri P W c A H (fun _ : ρ => .exit id) A' H') : CTri P W (.block id c) A H (fun _ : ρ => .normal) A' H' := by
  intro W0 F N w a Q hF hN r ha hK
  refine wp_block (h W0 F N w a _ hF hN r ha fun q a' w' hs hd => ?_)
  show (if id = id then Q .normal a' w' else _)
  rw [if_pos rfl]
  exact hK q a' w' hs hd
theorem Tri.body {f : FuncId} {fn : Func} {cd : Code} {t m : Nat} {A A0 : List AV} {H H' : LH} {v : AV} {ax : AX} (hfn : P.funcs[f]? = some fn) (hcd : fn.body = some cd) (hres : fn.results = #[.tmp t]) (hm : fn.ntmps = m) (hA0 : A ++ List.replicate (m - A.length) AV.undef = A0) (hax : ax = .ret ∨ ax = .normal) (ht : t < m)
    (h : CTri P W cd A0 H (fun _ : Unit => ax) (fun _ => tms 0 m [(t, v)]) (fun _ => H')) : Tri P W f A H v H' := by
  intro W0 F N w vargs hF hN r ha
  have hlen : A.length = vargs.size := by rw [ha.len]; simp
  refine calls_of_wp hfn hcd ?_
  refine h W0 F N w _ _ hF hN r ?_ fun _ a' w' hs hd => ?_
  · subst hA0
    rw [Array.toList_append, Array.toList_replicate, hm, hlen]
    refine ha.append ?_
    generalize m - vargs.size = k
    induction k with
    | zero => exact VRs_nil
    | succ k ih => exact VRs_cons.2 ⟨undef_VR, ih⟩
  · obtain ⟨N1, g1, g2, g3, g4⟩ := hs
    have hv : ∀ (k j : Nat) (l : List Value), k ≤ t → t < k + j → VRs N1 (tms k j [(t, v)]) l → ∃ y, l[t - k]? = some y ∧ VR N1 v y := by
      intro k j
      induction j generalizing k with
      | zero => intro l h1 h2; omega
      | succ j ih =>
        intro l h1 h2 hl
        rw [tms] at hl
        simp only [VRs] at hl
        obtain ⟨y, l', q1, q2, rfl⟩ := hl
        by_cases e : k = t
        · subst e
          refine ⟨y, by simp, ?_⟩
          simpa using q1
        · obtain ⟨z, z1, z2⟩ := ih (k + 1) l' (by omega) (by omega) q2
          exact ⟨z, by rw [show t - k = (t - (k + 1)) + 1 from by omega, List.getElem?_cons_succ]; exact z1, z2⟩
    obtain ⟨y, hy, hvy⟩ := hv 0 m _ (Nat.zero_le _) (by omega) g4
    have hr : (results fn a'.tmps).run P w' = .ok y w' := by
      unfold results
      rw [hres]
      have : a'.tmps.getD t Go.undef = y := by
        rw [Nat.sub_zero, Array.getElem?_toList] at hy
        simp [Array.getD_eq_getD_getElem?, hy]
      rw [Array.getD_eq_getD_getElem?] at this
      simp [this]
    have hpost : a'.defers = [] ∧ ∃ y, (results fn a'.tmps).run P w' = .ok y w' ∧ ∃ z, Ending.returned y = .returned z ∧ St W0 F N H' [v] [z] w' := ⟨hd, y, hr, y, rfl, N1, g1, g2, g3, VRs_cons.2 ⟨hvy, VRs_nil⟩⟩
    rcases hax with rfl | rfl
    · exact hpost
    · exact hpost
theorem CTri.run {con : ConT} {claim : ClaimT} {lcon : LconT} {g : FuncId} {cd : Code} {A : List AV} {H : LH} {ax : ρ → AX} {A' : ρ → List AV} {H' : ρ → LH} (ks : List Nat) (fuel : Nat) (hm : P.follows .mixedOrders = true) (hH : namesLt 1100 H = true)
    (hcon : ∀ F, OldOK W F → ConOK P (envO P F con claim lcon W)) (hl : ∀ F, OldOK W F → LconOK P (envO P F con claim lcon W))
    (hrun : ∀ F, OldOK W F → (((runCode P (envO P F con claim lcon W) fuel g cd A).run2 (heapOf H) 1100 []).view ks).all fun u os _ => FitsE ks u.2 os fun W0 F N ys w => ∃ q, ax q = u.1 ∧ St W0 F N (H' q) (A' q) ys w) : CTri P W cd A H ax A' H' := by
  intro W0 F N w a Q hF hN r ha hK
  obtain ⟨⟨x, t⟩, h', n', lg', c, he, hc, hq⟩ := VT.all_pick (hrun F hF)
  rw [run2_pick] at he
  refine (runCode_sound hF.env hm (hcon F hF) (hl F hF) fuel).1 _ _ _ _ _ _ _ _ _ _ _ _ _ _ _ _ _ _ he hc r ha (fun i h1 h2 => hN.nothing hH h1) fun N2 a2 w2 r2 t2 d2 x2 => ?_
  have hlim := run_limit _ he (by decide)
  obtain ⟨q, e, hs⟩ := hq.state r2 x2 hlim (fun i hi => hN.nothing hH hi) t2
  simp only at e
  rw [← e]
  exact hK q a2 w2 hs d2
theorem CTri.loop {con : σ → ConT} {claim : σ → ClaimT} {lcon : σ → LconT} {g : FuncId} {b : Code} (A : σ → List AV) (H : σ → LH) (ax : ρ → AX) (A' : ρ → List AV) (H' : ρ → LH) (hax : ∀ q, ax q ≠ .normal) (μ : σ → Nat) (ks : List Nat) (fuel : Nat) (hm : P.follows .mixedOrders = true)
    (hH : ∀ s, namesLt 1100 (H s) = true)
    (hcon : ∀ s F, OldOK W F → ConOK P (envO P F (con s) (claim s) (lcon s) W)) (hl : ∀ s F, OldOK W F → LconOK P (envO P F (con s) (claim s) (lcon s) W))
    (hstep : ∀ s F, OldOK W F → (((runCode P (envO P F (con s) (claim s) (lcon s) W) fuel g b (A s)).run2 (heapOf (H s)) 1100 []).view ks).all fun r os _ =>
      FitsE ks r.2 os fun W0 F N ys w => (r.1 = .normal ∧ ∃ s', μ s' < μ s ∧ St W0 F N (H s') (A s') ys w) ∨ ∃ q, ax q = r.1 ∧ St W0 F N (H' q) (A' q) ys w) (s : σ) :
    CTri P W (.loop b) (A s) (H s) ax A' H' := by
  intro W0 F N w a Q hF hN r ha hK
  refine wp_loop_rounds (μ s + 1) ?_
  have key : ∀ (m : Nat) (s : σ), μ s < m → ∀ (N1 : Names) (w : World) (a1 : Act), (∀ i, i < 1000 → N1 i = N i) → NB N1 (H s) → Rep W0 N1 F (heapOf (H s)) w → VRs N1 (A s) a1.tmps.toList → a1.defers = a.defers →
      Code.rounds P b Q m a1 w := by
    intro m
    induction m with
    | zero => intro s hs; omega
    | succ m ih =>
      intro s hs N1 w a1 hN1 hNB r ha hd
      rw [rounds_succ]
      obtain ⟨⟨x, t⟩, h', n', lg', c, he, hc, hq⟩ := VT.all_pick (hstep s F hF)
      rw [run2_pick] at he
      refine (runCode_sound hF.env hm (hcon s F hF) (hl s F hF) fuel).1 _ _ _ _ _ _ _ _ _ _ _ _ _ _ _ _ _ _ he hc r ha (fun i h1 h2 => hNB.nothing (hH s) h1) fun N2 a2 w2 r2 t2 d2 x2 => ?_
      have hlim := run_limit _ he (by decide)
      have hN0 : ∀ i, 1100 ≤ i → N1 i = none := fun i hi => hNB.nothing (hH s) hi
      rcases hq.state r2 x2 hlim hN0 t2 with ⟨e, s', hμ, N3, q1, q2, q3, q4⟩ | ⟨q, e, N3, q1, q2, q3, q4⟩
      · simp only at e
        subst e
        show Code.rounds P b Q m a2 w2
        exact ih s' (by omega) N3 w2 a2 (fun i hi => (q1 i hi).trans (hN1 i hi)) q2 q3 q4 (d2.trans hd)
      · have hfin := hK q a2 w2 ⟨N3, fun i hi => (q1 i hi).trans (hN1 i hi), q2, q3, q4⟩ (d2.trans hd)
        have hx : x ≠ .normal := fun h => hax q (e.trans h)
        rw [e] at hfin
        cases x with
        | normal => exact absurd rfl hx
        | exit id => exact hfin
        | ret => exact hfin
  exact key _ s (by omega) N w a (fun _ _ => rfl) hN r ha rfl
end
end Go.Proofs.YtpijbbobejeemaaGreatDoor.Eng

/- Code in pieces, over the program. -/
set_option linter.unusedVariables false
set_option linter.unusedSimpArgs false
namespace Go.Proofs.YtpijbbobejeemaaGreatDoor.Kit
open Go Go.RowKit Go.Proofs.YtpijbbobejeemaaGreatDoor.Eng
section
variable {W : World} {g : FuncId} {ρ σ : Type}
end
/-! Pieces of code. -/
def fst : Code → Code
  | .seq a _ => a
  | c => c
def snd : Code → Code
  | .seq _ b => b
  | c => c
end Go.Proofs.YtpijbbobejeemaaGreatDoor.Kit

/- Rows of like elements: cells one by one. No program. -/
set_option linter.unusedVariables false
set_option linter.unusedSimpArgs false
namespace Go.Proofs.YtpijbbobejeemaaGreatDoor.Eng
open Go Go.RowKit
section
variable {α : Type} {enc : α → List Value} {k : Nat}
theorem row_getD (hk : ∀ x, (enc x).length = k) (L : List α) (d0 : α) (i : Nat) (hi : i < L.length) (j : Nat) (hj : j < k) (v : Value) (hv : (enc (L.getD i d0))[j]? = some v) (d : AV) : (rowV enc L).getD (0 + i * k + j) d = .v v := by
  have h := rowV_span hk L d0 i hi
  have h2 : (((rowV enc L).drop (i * k)).take k)[j]? = some (.v v) := by
    rw [h, vmap, List.getElem?_map, hv]; rfl
  rw [List.getElem?_take_of_lt hj, List.getElem?_drop] at h2
  rw [Nat.zero_add, List.getD, h2]; rfl
theorem row_addW (hk : ∀ x, (enc x).length = k) (P : List α) (y : α) : List.take (P.length * k) (List.drop 0 (rowV enc P)) ++ vmap (enc y) = rowV enc (P ++ [y]) := by
  rw [List.drop_zero, rowV_take hk, List.take_length, ← rowV_one (enc := enc), ← rowV_append]
theorem row_full (hk : ∀ x, (enc x).length = k) (P : List α) : (List.take (P.length * k) (List.drop 0 (rowV enc P))).length.beq (P.length * k) = true := by
  rw [List.drop_zero, rowV_take hk, List.take_length, rowV_length hk]; exact Nat.beq_refl _
theorem row_in (hk : ∀ x, (enc x).length = k) (P : List α) : (0 + P.length * k).ble (rowV enc P).length = true := by
  rw [rowV_length hk, Nat.ble_eq]; omega
end
theorem getD_lt {α : Type} {L : List α} {d : α} {i : Nat} (h : i < L.length) : L.getD i d ∈ L := by
  rw [List.getD, List.getElem?_eq_getElem h]; exact List.getElem_mem h
end Go.Proofs.YtpijbbobejeemaaGreatDoor.Eng

/- Rows of texts and of bytes; small laws that runs leave. -/
set_option linter.unusedVariables false
set_option linter.unusedSimpArgs false
set_option maxRecDepth 100000
namespace Go.Proofs.YtpijbbobejeemaaGreatDoor.Kit
open Go Go.RowKit Go.Proofs.YtpijbbobejeemaaGreatDoor.Eng
/-! Rows of texts. -/
/-! Rows of bytes. -/
def byv (b : UInt8) : AV := .v (.int .u8 b.toNat)
def encB (b : UInt8) : List Value := [.int .u8 b.toNat]
abbrev tByt : TypeId := 2 * 5
def rB (l : List UInt8) : AO := .cells (rowV encB l) tByt
def rB1 (l : List UInt8) : AO := .cells (rowV encB l) (tByt + 1)
def sB (i n : Nat) : AV := .slice i 0 n 1 (.lo n)
theorem encB_len (x : UInt8) : (encB x).length = 1 := rfl
theorem rB_len (M : List UInt8) : (rowV encB M).length = M.length := by rw [rowV_length (k := 1) encB_len, Nat.mul_one]
theorem rB_ren (σ : Nat → Nat) (L : List UInt8) : (rB L).ren σ = rB L := by simp only [rB, AO.ren, rens_rowV]
theorem rB1_ren (σ : Nat → Nat) (L : List UInt8) : (rB1 L).ren σ = rB1 L := by simp only [rB1, AO.ren, rens_rowV]
theorem rB_ow {x : List AV} {L : List UInt8} {e : TypeId} {σ : Nat → Nat} (h : x = rowV encB L) (he : e = tByt) : OW (.cells x e) ((rB L).ren σ) := by rw [rB_ren]; subst h he; exact OW.refl _
theorem rB1_ow {x : List AV} {L : List UInt8} {e : TypeId} {σ : Nat → Nat} (h : x = rowV encB L) (he : e = tByt + 1) : OW (.cells x e) ((rB1 L).ren σ) := by rw [rB1_ren]; subst h he; exact OW.refl _
theorem rB_cl (K : Nat → Bool) (L : List UInt8) : (rB L).cl K := cls_rowV _ _
theorem rB1_cl (K : Nat → Bool) (L : List UInt8) : (rB1 L).cl K := cls_rowV _ _
theorem rB_get (M : List UInt8) (i : Nat) (hi : i < M.length) (d : AV) : (rowV encB M).getD (0 + i * 1) d = byv (M.getD i 0) := by
  have := row_getD (k := 1) encB_len M 0 i hi 0 (by decide) (.int .u8 (M.getD i 0).toNat) rfl d
  simpa [byv] using this
theorem rB_lt (M : List UInt8) (i : Nat) (hi : i < M.length) : (0 + i * 1).blt (rowV encB M).length = true := by
  rw [rB_len, Nat.blt_eq]; omega
theorem rowB_map (l : List UInt8) : rowV encB l = vmap (l.map fun b => .int .u8 b.toNat) := by
  unfold rowV
  congr 1
  induction l with
  | nil => rfl
  | cons a l ih => rw [List.flatMap_cons, List.map_cons, ih]; rfl
theorem txt_row (s : ByteArray) : txtV s = rowV encB s.data.toList := (rowB_map _).symm
theorem row_txt {s : ByteArray} {l : List UInt8} (h : l = s.data.toList) : rowV encB l = txtV s := by rw [h, txt_row]
theorem rB_in {p : Nat} {P : List UInt8} (h : P.length = p) : (0 + p * 1).ble (rowV encB P).length = true := by rw [rB_len, Nat.ble_eq]; omega
theorem rB_full {p : Nat} {P : List UInt8} (h : P.length = p) : (List.take (p * 1) (List.drop 0 (rowV encB P))).length.beq (p * 1) = true := by
  have : (List.take (p * 1) (List.drop 0 (rowV encB P))).length = p * 1 := by rw [List.length_take, List.drop_zero, rB_len]; omega
  rw [this]; exact Nat.beq_refl _
theorem rB_adds {p : Nat} {P : List UInt8} (h : P.length = p) (l : List UInt8) : List.take (p * 1) (List.drop 0 (rowV encB P)) ++ rowV encB l = rowV encB (P ++ l) := by
  rw [List.drop_zero, List.take_of_length_le (by rw [rB_len]; omega), ← rowV_append]
theorem ltTN {j n : Nat} (h : j < n) : decide (Int.ofNat j < Int.ofNat n) = true := decide_eq_true (by simp only [Int.ofNat_eq_natCast]; omega)
theorem ltFN {j n : Nat} (h : n ≤ j) : decide (Int.ofNat j < Int.ofNat n) = false := decide_eq_false (by simp only [Int.ofNat_eq_natCast]; omega)
theorem ltFG {j n : Nat} (h : n ≤ j) : decide (Int.ofNat j < (n : Int)) = false := decide_eq_false (by simp only [Int.ofNat_eq_natCast]; omega)
theorem ble_of {a b : Nat} (h : a ≤ b) : a.ble b = true := by rw [Nat.ble_eq]; exact h
/-! Small laws. -/
theorem ltTC {j n : Nat} (h : j < n) : decide (Int.ofNat j < (n : Int)) = true := decide_eq_true (by simp only [Int.ofNat_eq_natCast]; omega)
theorem VAll.ite {α : Type} {Q : α → List (Option AO) → Nat → Prop} {b : Bool} {x y : VT α} (h1 : b = true → VAll Q x) (h2 : b = false → VAll Q y) : VAll Q (.ite b x y) := ⟨⟨fun h => (h1 h).out, fun h => (h2 h).out⟩⟩
theorem wk_sv {a b : ByteArray} (h : a = b) : Wk (.v (.string a)) (.v (.string b)) := by subst h; exact Wk.refl _
theorem wk_u8 {a b : Int} (h : a = b) : Wk (.v (.int .u8 a)) (.v (.int .u8 b)) := by subst h; exact Wk.refl _
theorem ba_ext {a b : ByteArray} (h : a.data.toList = b.data.toList) : a = b := ByteArray.ext (Array.toList_inj.1 h)
theorem ba_app (a b : ByteArray) : (a ++ b).data.toList = a.data.toList ++ b.data.toList := by simp
theorem ba_size (s : ByteArray) : s.data.toList.length = s.size := rfl
end Go.Proofs.YtpijbbobejeemaaGreatDoor.Kit

/- Functions that hand back a value and leave what was there as it was: contracts from the library's laws. -/
set_option linter.unusedVariables false
set_option linter.unusedSimpArgs false
namespace Go.Proofs.YtpijbbobejeemaaGreatDoor.Kit
open Go Go.RowKit Go.Proofs.YtpijbbobejeemaaGreatDoor.Eng
noncomputable section
def Stays (W w : World) : Prop := ∀ (b : Nat) (o : Obj), W.heap[b]? = some o → w.heap[b]? = some o
theorem Stays.cell {W w : World} (h : Stays W w) {a : Addr} {v : Value} (hv : W.cell? a = some v) : w.cell? a = some v := cell_of_block h a v hv
theorem Stays.tab {W w : World} (h : Stays W w) {P : Program} {n : String} {k : IntKind} {zs : List Int} (ht : Lib.TabIs P W n k zs) : Lib.TabIs P w n k zs := by
  unfold Lib.TabIs World.var? at *
  cases hg : P.globalNamed n with
  | none => rw [hg] at ht; cases ht
  | some g =>
    rw [hg] at ht
    simp only [Option.bind_some] at ht ⊢
    cases hb : W.heap[g]? with
    | none => rw [hb] at ht; cases ht
    | some o => rw [hb] at ht; rw [h _ _ hb]; exact ht
def vC {π : Type} (get : List AV → Option π) (pre : π → Prop) (val : π → AV) : List AV → Option (AP AV) :=
  fun args => match get args with
  | some p => some (.need (pre p) (.ret (val p)))
  | none => some (.fail "arguments")
theorem vC_ok {W : World} {F : HP} (hF : OldOK W F) {f : FuncId} {π : Type} {get : List AV → Option π} {pre : π → Prop} {val : π → AV} (args : π → List Value) (res : π → Value)
    (hg : ∀ A p, get A = some p → A = vmap (args p)) (hv : ∀ p N, VR N (val p) (res p))
    (h : ∀ p, pre p → ∀ w, Stays W w → Calls Tryz.prog f (args p).toArray w fun e w' => e = .returned (res p) ∧ Below w.heap.size w w') : C1OK Tryz.prog F f (vC get pre val) := by
  intro st W0 N h0 w A vargs v h' n n' lg lg' c q hp he hc r ha hf
  unfold vC at hp
  split at hp
  · rename_i p hg1
    cases hp
    obtain ⟨c1, e1, rfl⟩ := run_need he
    obtain ⟨rfl, rfl, rfl⟩ := inv_ret e1
    obtain ⟨hpre, hc1⟩ := (Cnd.and_iff _ _).1 hc
    have hA := hg _ _ hg1
    subst hA
    have : vargs = (args p).toArray := by
      have := ha.of_vmap
      rw [← this]
    subst this
    obtain ⟨D0, D, h1, h2, h3⟩ := r.sat
    refine (h p hpre w (hF D0 w h1)).mono ?_
    rintro e w' ⟨rfl, hb⟩
    exact ⟨_, N, rfl, r.below hb, hv p N, fun _ _ => rfl⟩
  · cases hp
    cases he
def g1s : List AV → Option ByteArray
  | [.v (.string s)] => some s
  | _ => none
def g2s : List AV → Option (ByteArray × ByteArray)
  | [.v (.string s), .v (.string t)] => some (s, t)
  | _ => none
def g1i : List AV → Option Int
  | [.v (.int .i64 n)] => some n
  | _ => none
theorem g1s_spec (A : List AV) (p : ByteArray) (h : g1s A = some p) : A = vmap [.string p] := by
  unfold g1s at h
  split at h
  · cases h; rfl
  · cases h
theorem g2s_spec (A : List AV) (p : ByteArray × ByteArray) (h : g2s A = some p) : A = vmap [.string p.1, .string p.2] := by
  unfold g2s at h
  split at h
  · cases h; rfl
  · cases h
theorem g1i_spec (A : List AV) (p : Int) (h : g1i A = some p) : A = vmap [.int .i64 p] := by
  unfold g1i at h
  split at h
  · cases h; rfl
  · cases h
theorem vr_v (N : Names) (x : Value) : VR N (.v x) x := VR_v.2 rfl
/-! Slices of our own memory that are read. -/
theorem rep_span {W0 w : World} {N : Names} {F : HP} {h : T} (r : Rep W0 N F h w) {i off len : Nat} {cap : Cp} {cs : List AV} {e : TypeId} {y : Value} (hi : h.find i = some (.cells cs e)) (hy : VR N (.slice i off len 1 cap) y) :
    ∃ b x c, y = .slice (some ⟨b, x, none⟩) len c ∧ len ≤ c ∧ b < w.heap.size ∧ ∀ (j : Nat) (a : AV), j < len → cs[off + j]? = some a → ∃ v, w.cell? ⟨b, x + j, none⟩ = some v ∧ VR N a v := by
  obtain ⟨D, hO⟩ := r.obj hi
  obtain ⟨l, arr, fz, h1, h2, h3, h4, h5, h6, h7, h8⟩ := hO
  simp only [VR] at hy
  obtain ⟨l', x, c, q1, q2, q3, q4, q5, q6⟩ := hy
  rw [h1] at q1
  cases q1
  refine ⟨l.blk, x, c, q2, q6, (Array.getElem?_eq_some_iff.1 h3).1, fun j a hj ha => ?_⟩
  rcases q3 with rfl | rfl
  · obtain ⟨v, hv, hV⟩ := h7.get ha
    refine ⟨v, ?_, hV⟩
    have hlt : off + j < cs.length := (List.getElem?_eq_some_iff.1 ha).1
    rw [List.getElem?_take_of_lt hlt, List.getElem?_drop] at hv
    simp only [World.cell?, h3]
    rw [← Nat.add_assoc] at hv
    simpa using hv
  · omega
def strsOf (l : List AV) : List ByteArray := l.map AV.strOf
def rowStrC (pre : List ByteArray → ByteArray → Prop) (val : List ByteArray → ByteArray → AV) : List AV → Option (AP AV) := fun args => match args with
  | [.slice i off len sz _, .v (.string t)] => some (.read i fun o => match o with
    | .cells cs _ => .need (sz = 1 ∧ List.take len (List.drop off cs) = (strsOf (List.take len (List.drop off cs))).map sv ∧ (strsOf (List.take len (List.drop off cs))).length = len) (.need (pre (strsOf (List.take len (List.drop off cs))) t) (.ret (val (strsOf (List.take len (List.drop off cs))) t)))
    | _ => .fail "row")
  | _ => some (.fail "row")
theorem rowStrC_ok {W : World} {F : HP} (hF : OldOK W F) {f : FuncId} {pre : List ByteArray → ByteArray → Prop} {val : List ByteArray → ByteArray → AV} (res : List ByteArray → ByteArray → Value) (hv : ∀ xs t N, VR N (val xs t) (res xs t))
    (hc : ∀ xs t, pre xs t → ∀ w, Stays W w → ∀ bk o c, (∀ (j : Nat) x, xs[j]? = some x → w.cell? ⟨bk, o + j, none⟩ = some (.string x)) → bk < w.heap.size → xs.length ≤ c →
      Calls Tryz.prog f #[.slice (some ⟨bk, o, none⟩) xs.length c, .string t] w fun e w' => e = .returned (res xs t) ∧ Below w.heap.size w w') : C1OK Tryz.prog F f (rowStrC pre val) := by
  intro st W0 N h0 w A vargs v h' n n' lg lg' c q hp he hcc r ha hf
  unfold rowStrC at hp
  split at hp
  · rename_i i off len sz cap t
    cases hp
    obtain ⟨o, ho, e1⟩ := run_read he
    cases o with
    | cells cs e =>
      simp only at e1
      obtain ⟨c1, e2, rfl⟩ := run_need e1
      obtain ⟨⟨rfl, hrow, hlen⟩, hc1⟩ := (Cnd.and_iff _ _).1 hcc
      obtain ⟨c2, e3, rfl⟩ := run_need e2
      obtain ⟨hpre, hc2⟩ := (Cnd.and_iff _ _).1 hc1
      obtain ⟨rfl, rfl, rfl⟩ := inv_ret e3
      generalize hxs : strsOf (List.take len (List.drop off cs)) = xs at *
      obtain ⟨y1, r1, h1, ⟨y2, r2, h2, rfl, rfl⟩, hl⟩ := (by simpa only [VRs] using ha : ∃ y r, VR N (.slice i off len 1 cap) y ∧ (∃ y2 r2, VR N (.v (.string t)) y2 ∧ r2 = [] ∧ r = y2 :: r2) ∧ vargs.toList = y :: r)
      have h2 := VR_v.1 h2
      subst h2
      obtain ⟨b, x, cc, rfl, k2, k3, k4⟩ := rep_span r ho h1
      have hva : vargs = #[.slice (some ⟨b, x, none⟩) xs.length cc, .string t] := by
        apply Array.ext'
        rw [hl, hlen]
      subst hva
      obtain ⟨D0, D, p1, p2, p3⟩ := r.sat
      refine (hc xs t hpre w (hF D0 w p1) b x cc (fun j z hz => ?_) k3 (by omega)).mono ?_
      · have hj : j < len := by rw [← hlen]; exact (List.getElem?_eq_some_iff.1 hz).1
        have : (List.take len (List.drop off cs))[j]? = some (sv z) := by rw [hrow, List.getElem?_map, hz]; rfl
        rw [List.getElem?_take_of_lt hj, List.getElem?_drop] at this
        obtain ⟨v, hv1, hv2⟩ := k4 j _ hj this
        rw [hv1]
        exact congrArg some (VR_v.1 hv2)
      · rintro e w' ⟨rfl, hb⟩
        exact ⟨_, N, rfl, r.below hb, hv xs t N, fun _ _ => rfl⟩
    | _ => cases e1
  · cases hp
    cases he
def u8V (z : Int) : AV := .v (.int .u8 z)
theorem rep_bytes {W0 w : World} {N : Names} {F : HP} {h : T} (r : Rep W0 N F h w) {i off n : Nat} {cap : Cp} {cs : List AV} {e : TypeId} {y : Value} {xs : List Int} (hi : h.find i = some (.cells cs e)) (hy : VR N (.slice i off n 1 cap) y)
    (hx : List.take n (List.drop off cs) = xs.map u8V) (hn : xs.length = n) :
    ∃ b x c, y = .slice (some ⟨b, x, none⟩) n c ∧ n ≤ c ∧ b < w.heap.size ∧ ∀ j, j < n → w.cell? ((⟨b, x, none⟩ : Addr).add j) = some (.int .u8 (xs.getD j 0)) := by
  obtain ⟨b, x, c, rfl, k2, k3, k4⟩ := rep_span r hi hy
  refine ⟨b, x, c, rfl, k2, k3, fun j hj => ?_⟩
  have h1 : (List.take n (List.drop off cs))[j]? = some (u8V (xs.getD j 0)) := by
    rw [hx, List.getElem?_map, List.getD_eq_getElem?_getD]
    cases hg : xs[j]? with
    | none => have := List.getElem?_eq_none_iff.1 hg; omega
    | some z => rfl
  rw [List.getElem?_take_of_lt hj, List.getElem?_drop] at h1
  obtain ⟨v, hv1, hv2⟩ := k4 j _ hj h1
  rw [add_lit, hv1]
  exact congrArg some (VR_v.1 hv2)
theorem bytesOf_spec : ∀ {l : List AV} {xs : List Int}, bytesOf l = some xs → l = xs.map u8V
  | [], xs, h => by simp only [bytesOf, Option.some.injEq] at h; subst h; rfl
  | a :: l, xs, h => by
    unfold bytesOf at h
    split at h
    · rename_i heq; cases heq
    · rename_i n r heq
      cases heq
      split at h
      · rename_i t ht
        cases h
        rw [bytesOf_spec ht]
        rfl
      · cases h
    · cases h
theorem isByte_spec {z : Int} (h : isByte z = true) : 0 ≤ z ∧ z < 256 := by
  unfold isByte at h
  split at h
  · rename_i k
    rw [Nat.blt_eq] at h
    exact ⟨by simp, by simp only [Int.ofNat_eq_natCast]; omega⟩
  · cases h
def row2K (pre : List Int → List Int → Bool) (val : List Int → List Int → AV) : List AV → Option (AP AV) := fun args => match args with
  | [.slice i off n sz _, .slice j off2 k sz2 _] => some (.read i fun o => match o with
    | .cells cs _ => .read j fun o2 => match o2 with
      | .cells ds _ => (match bytesOf (List.take n (List.drop off cs)), bytesOf (List.take k (List.drop off2 ds)) with
        | some xs, some ys => (match Nat.beq sz 1 && (Nat.beq sz2 1 && (Nat.beq xs.length n && (Nat.beq ys.length k && (xs.all isByte && (ys.all isByte && pre xs ys))))) with
          | true => .ret (val xs ys)
          | false => .fail "bytes")
        | _, _ => .fail "bytes")
      | _ => .fail "bytes"
    | _ => .fail "bytes")
  | _ => some (.fail "bytes")
theorem row2K_ok {W : World} {F : HP} (hF : OldOK W F) {f : FuncId} {pre : List Int → List Int → Bool} {val : List Int → List Int → AV} (res : List Int → List Int → Value) (hv : ∀ xs ys N, VR N (val xs ys) (res xs ys))
    (hc : ∀ xs ys, pre xs ys = true → (∀ z ∈ xs, 0 ≤ z ∧ z < 256) → (∀ z ∈ ys, 0 ≤ z ∧ z < 256) → ∀ w, Stays W w → ∀ b x c b2 x2 c2, xs.length ≤ c → ys.length ≤ c2 →
      (∀ j, j < xs.length → w.cell? ((⟨b, x, none⟩ : Addr).add j) = some (.int .u8 (xs.getD j 0))) → (∀ j, j < ys.length → w.cell? ((⟨b2, x2, none⟩ : Addr).add j) = some (.int .u8 (ys.getD j 0))) →
      Calls Tryz.prog f #[.slice (some ⟨b, x, none⟩) xs.length c, .slice (some ⟨b2, x2, none⟩) ys.length c2] w fun e w' => e = .returned (res xs ys) ∧ Below w.heap.size w w') : C1OK Tryz.prog F f (row2K pre val) := by
  intro st W0 N h0 w A vargs v h' n n' lg lg' c q hp he hcc r ha hf
  unfold row2K at hp
  split at hp
  · rename_i i off m sz cap j off2 k sz2 cap2
    cases hp
    obtain ⟨o, ho, e1⟩ := run_read he
    cases o with
    | cells cs e =>
      obtain ⟨o2, ho2, e2⟩ := run_read e1
      cases o2 with
      | cells ds e' =>
        simp only at e2
        split at e2
        · rename_i xs ys hx hy
          split at e2
          · rename_i hg
            obtain ⟨rfl, rfl, rfl⟩ := inv_ret e2
            simp only [Bool.and_eq_true] at hg
            obtain ⟨g1, g2, g3, g4, g5, g6, g7⟩ := hg
            have g1 := Nat.eq_of_beq_eq_true g1
            have g2 := Nat.eq_of_beq_eq_true g2
            have g3 := Nat.eq_of_beq_eq_true g3
            have g4 := Nat.eq_of_beq_eq_true g4
            subst g1 g2 g3 g4
            obtain ⟨y1, r1, h1, ⟨y2, r2, h2, rfl, rfl⟩, hl⟩ := (by simpa only [VRs] using ha : ∃ y r, VR N (.slice i off xs.length 1 cap) y ∧ (∃ y2 r2, VR N (.slice j off2 ys.length 1 cap2) y2 ∧ r2 = [] ∧ r = y2 :: r2) ∧ vargs.toList = y :: r)
            obtain ⟨b, x, cc, rfl, k2, k3, k4⟩ := rep_bytes r ho h1 (bytesOf_spec hx) rfl
            obtain ⟨b2, x2, cc2, rfl, k5, k6, k7⟩ := rep_bytes r ho2 h2 (bytesOf_spec hy) rfl
            have hva : vargs = #[.slice (some ⟨b, x, none⟩) xs.length cc, .slice (some ⟨b2, x2, none⟩) ys.length cc2] := by
              apply Array.ext'
              rw [hl]
            subst hva
            obtain ⟨D0, D, p1, p2, p3⟩ := r.sat
            refine (hc xs ys g7 (fun z hz => isByte_spec (List.all_eq_true.1 g5 z hz)) (fun z hz => isByte_spec (List.all_eq_true.1 g6 z hz)) w (hF D0 w p1) b x cc b2 x2 cc2 k2 k5 k4 k7).mono ?_
            rintro e w' ⟨rfl, hb⟩
            exact ⟨_, N, rfl, r.below hb, hv xs ys N, fun _ _ => rfl⟩
          · cases e2
        · cases e2
      | _ => cases e2
    | _ => cases e1
  · cases hp
    cases he
def kC {π : Type} (get : List AV → Option π) (pre : π → Bool) (val : π → AV) : List AV → Option (AP AV) :=
  fun args => match get args with
  | some p => (match pre p with
    | true => some (.ret (val p))
    | false => some (.fail "arguments"))
  | none => some (.fail "arguments")
theorem kC_ok {F : HP} {f : FuncId} {π : Type} {get : List AV → Option π} {pre : π → Bool} {pre' : π → Prop} {val : π → AV} (h : C1OK Tryz.prog F f (vC get pre' val)) (hp : ∀ p, pre p = true → pre' p) : C1OK Tryz.prog F f (kC get pre val) := by
  intro st W0 N h0 w A vargs v h' n n' lg lg' c q hq he hc r ha hf
  unfold kC at hq
  split at hq
  · rename_i p hg1
    split at hq
    · rename_i hpre
      cases hq
      obtain ⟨rfl, rfl, rfl⟩ := inv_ret he
      have hv : vC get pre' val A = some (.need (pre' p) (.ret (val p))) := by unfold vC; rw [hg1]
      exact h st W0 N _ w A vargs _ _ _ _ lg lg ((Cnd.p (pre' p)).and .t) _ hv rfl ((Cnd.and_iff _ _).2 ⟨hp p hpre, trivial⟩) r ha hf
    · cases hq
      cases he
  · cases hq
    cases he
def strsA : List AV → Option (List ByteArray)
  | [] => some []
  | .v (.string s) :: l => (match strsA l with
    | some r => some (s :: r)
    | none => none)
  | _ => none
def rowStrK (pre : List ByteArray → ByteArray → Bool) (val : List ByteArray → ByteArray → AV) : List AV → Option (AP AV) := fun args => match args with
  | [.slice i off len sz _, .v (.string t)] => some (.read i fun o => match o with
    | .cells cs _ => (match strsA (List.take len (List.drop off cs)) with
      | some xs => (match Nat.beq sz 1 && (Nat.beq xs.length len && pre xs t) with
        | true => .ret (val xs t)
        | false => .fail "row")
      | none => .fail "row")
    | _ => .fail "row")
  | _ => some (.fail "row")
theorem strsA_spec : ∀ {l : List AV} {xs : List ByteArray}, strsA l = some xs → l = xs.map sv ∧ xs = strsOf l
  | [], xs, h => by simp only [strsA, Option.some.injEq] at h; subst h; exact ⟨rfl, rfl⟩
  | a :: l, xs, h => by
    unfold strsA at h
    split at h
    · rename_i heq; cases heq
    · rename_i s r heq
      cases heq
      split at h
      · rename_i t ht
        cases h
        obtain ⟨q1, q2⟩ := strsA_spec ht
        refine ⟨by rw [List.map_cons, ← q1]; rfl, ?_⟩
        rw [strsOf, List.map_cons]
        exact congrArg (_ :: ·) q2
      · cases h
    · cases h
theorem rowStrK_ok {F : HP} {f : FuncId} {pre : List ByteArray → ByteArray → Bool} {pre' : List ByteArray → ByteArray → Prop} {val : List ByteArray → ByteArray → AV} (h : C1OK Tryz.prog F f (rowStrC pre' val)) (hp : ∀ xs t, pre xs t = true → pre' xs t) : C1OK Tryz.prog F f (rowStrK pre val) := by
  intro st W0 N h0 w A vargs v h' n n' lg lg' c q hq he hc r ha hf
  unfold rowStrK at hq
  split at hq
  · rename_i i off len sz cap t
    cases hq
    obtain ⟨o, ho, e1⟩ := run_read he
    cases o with
    | cells cs e =>
      simp only at e1
      split at e1
      · rename_i xs hx
        split at e1
        · rename_i hg
          obtain ⟨rfl, rfl, rfl⟩ := inv_ret e1
          simp only [Bool.and_eq_true] at hg
          obtain ⟨q1, q2⟩ := strsA_spec hx
          have g1 := Nat.eq_of_beq_eq_true hg.1
          have g2 := Nat.eq_of_beq_eq_true hg.2.1
          subst g1
          refine h st W0 N _ w [.slice i off len 1 cap, .v (.string t)] vargs (val xs t) _ _ _ lg ((i, false) :: lg) ((Cnd.p (1 = 1 ∧ List.take len (List.drop off cs) = (strsOf (List.take len (List.drop off cs))).map sv ∧ (strsOf (List.take len (List.drop off cs))).length = len)).and ((Cnd.p (pre' (strsOf (List.take len (List.drop off cs))) t)).and .t)) _ rfl ?_ ?_ r ha hf
          · simp only [AP.run, ho]
            rw [q2]
            rfl
          · rw [← q2]
            exact (Cnd.and_iff _ _).2 ⟨⟨rfl, q1, g2⟩, (Cnd.and_iff _ _).2 ⟨hp _ _ hg.2.2, trivial⟩⟩
        · cases e1
      · cases e1
    | _ => cases e1
  · cases hq
    cases he
end
end Go.Proofs.YtpijbbobejeemaaGreatDoor.Kit

/- Http: what the library's functions hand back, as contracts. -/
set_option linter.unusedVariables false
set_option linter.unusedSimpArgs false
set_option maxRecDepth 100000
namespace Go.Proofs.YtpijbbobejeemaaGreatDoor.Htp
open Go Go.RowKit Go.Proofs.YtpijbbobejeemaaGreatDoor.Eng Go.Proofs.YtpijbbobejeemaaGreatDoor.Kit
noncomputable section
theorem below_dn {B : Nat} {a w : World} (h : Below B a w) (q : Nat) : Below B a (w.drewN q) := ⟨h.os, h.tape, h.output, h.size, h.block⟩
structure LW (W : World) : Prop where
  maxLen : ∃ m, W.cell? ⟨0, 0, none⟩ = some (.int .i64 m)
  pows : Lib.TabIs Tryz.prog W "internal/strconv.uint64pow10" .u64 Lib.pow10Tab
def tB (l : List UInt8) : ByteArray := ⟨l.toArray⟩
theorem tB_data (l : List UInt8) : (tB l).data.toList = l := by simp [tB]
theorem tB_size (l : List UInt8) : (tB l).size = l.length := by simp [tB, ByteArray.size]
theorem bytes_ext {a b : ByteArray} (h : a.data.toList = b.data.toList) : a = b := by
  cases a; cases b; congr 1; exact Array.ext' h
theorem tB_self (s : ByteArray) : tB s.data.toList = s := bytes_ext (tB_data _)
def itoaB (n : Int) : ByteArray := tB (Lib.itoa n)
def joinB (xs : List ByteArray) (sep : ByteArray) : ByteArray := tB (Lib.join (xs.map (·.data.toList)) sep.data.toList)
def cut1 (s t : ByteArray) : ByteArray := tB (Lib.cut s.data.toList t.data.toList).1
def cut2 (s t : ByteArray) : ByteArray := tB (Lib.cut s.data.toList t.data.toList).2.1
def cutK (s t : ByteArray) : Bool := (Lib.cut s.data.toList t.data.toList).2.2
def preB (s t : ByteArray) : ByteArray := tB (Lib.trimPrefix s.data.toList t.data.toList)
def preK (s t : ByteArray) : Bool := Lib.hasPrefix s.data.toList t.data.toList
def trimR (s t : ByteArray) : ByteArray := tB (Lib.trimRightS s.data.toList t.data.toList)
def idxC (s : ByteArray) (c : Int) : Int := Lib.indexByte s.data.toList c.toNat.toUInt8
def asciiB (s : ByteArray) : Prop := ∀ (j : Nat) b, s.data.toList[j]? = some b → b.toNat < 128
abbrev fItoa : Nat := 39
abbrev fJoin : Nat := 40
abbrev fCut : Nat := 45
abbrev fCutP : Nat := 43
abbrev fTrimR : Nat := 70
abbrev fIdxB : Nat := 71
variable {W : World} {F : HP}
def cItoa : List AV → Option (AP AV) := vC g1i (fun n => -9223372036854775808 ≤ n ∧ n ≤ 9223372036854775807) (fun n => sv (itoaB n))
theorem cItoa_ok (hW : LW W) (hF : OldOK W F) : C1OK Tryz.prog F fItoa cItoa :=
  vC_ok hF (fun n => [.int .i64 n]) (fun n => .string (itoaB n)) g1i_spec (fun p N => vr_v N _) fun n hn w hw => (Tryz.strconv_Itoa n hn.1 hn.2 w (hw.tab hW.pows)).mono fun e w' ⟨h1, k, os, h2⟩ => ⟨h1, by rw [h2]; exact Lib.below_grow _ _ (Nat.le_refl _) k os⟩
def cJoin : List AV → Option (AP AV) := rowStrC (fun xs t => xs.length ≤ 140737488355328 ∧ (Lib.join (xs.map (·.data.toList)) t.data.toList).length ≤ 140737488355328) (fun xs t => sv (joinB xs t))
theorem cJoin_ok (hF : OldOK W F) : C1OK Tryz.prog F fJoin cJoin :=
  rowStrC_ok hF (fun xs t => .string (joinB xs t)) (fun xs t N => vr_v N _) fun xs t h w hw bk o c h1 h2 h3 => Tryz.strings_Join bk o c xs t w h1 h2 h.1 h3 h.2
theorem vr_t2 (N : Names) (a b : Value) : VR N (.tuple [.v a, .v b]) (.tuple #[a, b]) := by
  simp only [VR, VRs]
  exact ⟨[a, b], ⟨a, [b], rfl, ⟨b, [], rfl, rfl, rfl⟩, rfl⟩, rfl⟩
theorem vr_t3 (N : Names) (a b c : Value) : VR N (.tuple [.v a, .v b, .v c]) (.tuple #[a, b, c]) := by
  simp only [VR, VRs]
  exact ⟨[a, b, c], ⟨a, [b, c], rfl, ⟨b, [c], rfl, ⟨c, [], rfl, rfl, rfl⟩, rfl⟩, rfl⟩, rfl⟩
def cCut : List AV → Option (AP AV) := vC g2s (fun p => p.1.size < 4294967281) (fun p => .tuple [sv (cut1 p.1 p.2), sv (cut2 p.1 p.2), bv (cutK p.1 p.2)])
theorem cCut_ok (hW : LW W) (hF : OldOK W F) : C1OK Tryz.prog F fCut cCut :=
  vC_ok hF (fun p => [.string p.1, .string p.2]) (fun p => .tuple #[.string (cut1 p.1 p.2), .string (cut2 p.1 p.2), .bool (cutK p.1 p.2)]) g2s_spec (fun p N => vr_t3 N _ _ _) fun p hp w hw => by
    obtain ⟨m, hm⟩ := hW.maxLen
    exact (Tryz.strings_Cut p.1 p.2 m w hp (hw.cell hm)).mono fun e w' ⟨h1, k, h2⟩ => ⟨h1, by rw [h2]; exact below_dn (Below.refl _ _) k⟩
def cCutP : List AV → Option (AP AV) := vC g2s (fun _ => True) (fun p => .tuple [sv (preB p.1 p.2), bv (preK p.1 p.2)])
theorem cCutP_ok (hF : OldOK W F) : C1OK Tryz.prog F fCutP cCutP :=
  vC_ok hF (fun p => [.string p.1, .string p.2]) (fun p => .tuple #[.string (preB p.1 p.2), .bool (preK p.1 p.2)]) g2s_spec (fun p N => vr_t2 N _ _) fun p hp w hw =>
    (Tryz.strings_CutPrefix p.1 p.2 w).mono fun e w' ⟨h1, h2⟩ => ⟨h1, by rw [h2]; exact Below.refl _ _⟩
def cTrimR : List AV → Option (AP AV) := vC g2s (fun p => p.1.size < 4294967281 ∧ p.2.size < 4294967281 ∧ asciiB p.2) (fun p => sv (trimR p.1 p.2))
theorem cTrimR_ok (hF : OldOK W F) : C1OK Tryz.prog F fTrimR cTrimR :=
  vC_ok hF (fun p => [.string p.1, .string p.2]) (fun p => .string (trimR p.1 p.2)) g2s_spec (fun p N => vr_v N _) fun p hp w hw =>
    Any.strings_TrimRight_laid Tryz.laysTrimRight (by kernel_rfl) p.1 p.2 w (by omega) hp.2.1 hp.2.2
def gSC : List AV → Option (ByteArray × Int)
  | [.v (.string s), .v (.int .u8 c)] => some (s, c)
  | _ => none
theorem gSC_spec (A : List AV) (p : ByteArray × Int) (h : gSC A = some p) : A = vmap [.string p.1, .int .u8 p.2] := by
  unfold gSC at h
  split at h
  · cases h; rfl
  · cases h
def cIdxB : List AV → Option (AP AV) := vC gSC (fun _ => True) (fun p => iv (idxC p.1 p.2))
theorem cIdxB_ok (hF : OldOK W F) : C1OK Tryz.prog F fIdxB cIdxB :=
  vC_ok hF (fun p => [.string p.1, .int .u8 p.2]) (fun p => .int .i64 (idxC p.1 p.2)) gSC_spec (fun p N => vr_v N _) fun p hp w hw =>
    (Tryz.strings_IndexByte p.1 p.2 w).mono fun e w' ⟨h1, h2⟩ => ⟨h1, by rw [h2]; exact Below.refl _ _⟩
end
end Go.Proofs.YtpijbbobejeemaaGreatDoor.Htp

/- Http: base 64: runs. -/
set_option linter.unusedVariables false
set_option linter.unusedSimpArgs false
set_option maxRecDepth 100000
namespace Go.Proofs.YtpijbbobejeemaaGreatDoor.Htp
open Go Go.RowKit Go.Proofs.YtpijbbobejeemaaGreatDoor.Eng Go.Proofs.YtpijbbobejeemaaGreatDoor.Kit
noncomputable section
abbrev fB64 : Nat := 44
abbrev fEnc : Nat := 21
def nilB : AV := .v (.slice none 0 0)
def aB6 (out : AV) (n bits k i : Nat) : List (Nat × AV) := [(2, out), (5, iv (Int.ofNat n)), (6, iv (Int.ofNat bits)), (23, sB 1001 k), (24, iv (Int.ofNat k)), (25, iv (Int.ofNat i))]
def kB6 : List Nat := [1001, 1000, 1100, 1101, 1102]
def iB6 : List Nat := [2, 5, 6, 23, 24, 25]
def hB6 (c : UInt8) (v n n' bits i m : Nat) (x : UInt8) (big : Bool) : ClaimT := hintL [(fB64, 8, 0, hv (.lit true)), (fB64, 9, 1, hv (byv c)), (fB64, 10, 1, hv (iv (Int.ofNat v))), (fB64, 11, 1, hv (.lit false)),
  (fB64, 13, 1, hv (iv (Int.ofNat (n * 64)))), (fB64, 13, 3, hv (iv (Int.ofNat (n * 64 + v)))), (fB64, 13, 4, hv (iv (Int.ofNat n'))), (fB64, 13, 6, hv (iv (Int.ofNat (bits + 6)))), (fB64, 14, 1, hv (.lit big)), (fB64, 15, 1, hv (iv (Int.ofNat (bits + 6 - 8)))), (fB64, 16, 3, hv (iv (Int.ofNat m))), (fB64, 16, 4, hv (byv x)), (fB64, 17, 0, hv (iv (Int.ofNat (i + 1))))]
theorem oB6s_eq (L : List UInt8) (c : UInt8) (v n n' bits k i m : Nat) (x : UInt8) (F : HP) : wLoop [(fIdxB, cIdxB)] (hB6 c v n n' bits i m x false) [] default fB64 (loopN fB64 8) (tms 0 63 (aB6 nilB n bits k i)) [(1001, rB1 L)] kB6 iB6 F = VT.leaf (AX.normal, [AV.v (Value.slice none 0 0), AV.v (Value.int IntKind.i64 (Int.ofNat n')), AV.v (Value.int IntKind.i64 (Int.ofNat (bits + 6))), AV.slice 1001 0 k 1 (Cp.lo k), AV.v (Value.int IntKind.i64 (Int.ofNat k)), AV.v (Value.int IntKind.i64 (Int.ofNat (i + 1)))], 63) [some (AO.cells (rowV encB L) 11), none, none, none, none] 1100 (((Cnd.p (Wk (AV.v (Value.bool (decide (Int.ofNat i < Int.ofNat k)))) (AV.lit true))).a Cnd.t).a (((Cnd.p (i.blt k = true)).a Cnd.t).a (((Cnd.p ((0 + i * 1).blt (rowV encB L).length = true)).a ((Cnd.p ((rowV encB L).getD (0 + i * 1) (AV.undef) = AV.v (Value.int IntKind.u8 ((rowV encB L).getD (0 + i * 1) (AV.undef)).intOf))).a ((Cnd.p (Wk (AV.v (Value.int IntKind.u8 ((rowV encB L).getD (0 + i * 1) (AV.undef)).intOf)) (AV.v (Value.int IntKind.u8 ↑c.toNat)))).a Cnd.t))).a (((Cnd.p True).a ((Cnd.p (Wk (AV.v (Value.int IntKind.i64 (idxC (ByteArray.mk (Array.mk [65, 66, 67, 68, 69, 70, 71, 72, 73, 74, 75, 76, 77, 78, 79, 80, 81, 82, 83, 84, 85, 86, 87, 88, 89, 90, 97, 98, 99, 100, 101, 102, 103, 104, 105, 106, 107, 108, 109, 110, 111, 112, 113, 114, 115, 116, 117, 118, 119, 120, 121, 122, 48, 49, 50, 51, 52, 53, 54, 55, 56, 57, 43, 47])) ↑c.toNat))) (AV.v (Value.int IntKind.i64 (Int.ofNat v))))).a Cnd.t)).a (((Cnd.p (Wk (AV.v (Value.bool false)) (AV.lit false))).a Cnd.t).a (((Cnd.p (Wk (AV.v (Value.int IntKind.i64 (IntKind.i64.wrap (Int.ofNat n * Int.ofNat 64)))) (AV.v (Value.int IntKind.i64 (Int.ofNat (n * 64)))))).a Cnd.t).a (((Cnd.p (Wk (AV.v (Value.int IntKind.i64 (IntKind.i64.wrap ↑(BitVec.ofInt 64 (Int.ofNat (n * 64)) ||| BitVec.ofInt 64 (Int.ofNat v)).toNat))) (AV.v (Value.int IntKind.i64 (Int.ofNat (n * 64 + v)))))).a Cnd.t).a (((Cnd.p (Wk (AV.v (Value.int IntKind.i64 (IntKind.i64.wrap ↑(BitVec.ofInt 64 (Int.ofNat (n * 64 + v)) &&& BitVec.ofInt 64 (Int.ofNat 65535)).toNat))) (AV.v (Value.int IntKind.i64 (Int.ofNat n'))))).a Cnd.t).a (((Cnd.p (Wk (AV.v (Value.int IntKind.i64 (IntKind.i64.wrap (Int.ofNat bits + Int.ofNat 6)))) (AV.v (Value.int IntKind.i64 (Int.ofNat (bits + 6)))))).a Cnd.t).a (((Cnd.p (Wk (AV.v (Value.bool (decide (Int.ofNat (bits + 6) ≥ Int.ofNat 8)))) (AV.lit false))).a Cnd.t).a (((Cnd.p (Wk (AV.v (Value.int IntKind.i64 (IntKind.i64.wrap (Int.ofNat i + Int.ofNat 1)))) (AV.v (Value.int IntKind.i64 (Int.ofNat (i + 1)))))).a Cnd.t).a Cnd.t))))))))))) := by kernel_rfl
theorem oB6n_eq (L : List UInt8) (c : UInt8) (v n n' bits k i m : Nat) (x : UInt8) (F : HP) : wLoop [(fIdxB, cIdxB)] (hB6 c v n n' bits i m x true) [] default fB64 (loopN fB64 8) (tms 0 63 (aB6 nilB n bits k i)) [(1001, rB1 L)] kB6 iB6 F = VT.leaf (AX.normal, [AV.slice 1101 0 1 1 (Cp.lo 1), AV.v (Value.int IntKind.i64 (Int.ofNat n')), AV.v (Value.int IntKind.i64 (Int.ofNat (bits + 6 - 8))), AV.slice 1001 0 k 1 (Cp.lo k), AV.v (Value.int IntKind.i64 (Int.ofNat k)), AV.v (Value.int IntKind.i64 (Int.ofNat (i + 1)))], 63) [some (AO.cells (rowV encB L) 11), none, some (AO.cells [AV.v (Value.int IntKind.u8 ↑x.toNat)] 10), some (AO.cells [AV.v (Value.int IntKind.u8 ↑x.toNat)] 10), none] 1102 (((Cnd.p (Wk (AV.v (Value.bool (decide (Int.ofNat i < Int.ofNat k)))) (AV.lit true))).a Cnd.t).a (((Cnd.p (i.blt k = true)).a Cnd.t).a (((Cnd.p ((0 + i * 1).blt (rowV encB L).length = true)).a ((Cnd.p ((rowV encB L).getD (0 + i * 1) (AV.undef) = AV.v (Value.int IntKind.u8 ((rowV encB L).getD (0 + i * 1) (AV.undef)).intOf))).a ((Cnd.p (Wk (AV.v (Value.int IntKind.u8 ((rowV encB L).getD (0 + i * 1) (AV.undef)).intOf)) (AV.v (Value.int IntKind.u8 ↑c.toNat)))).a Cnd.t))).a (((Cnd.p True).a ((Cnd.p (Wk (AV.v (Value.int IntKind.i64 (idxC (ByteArray.mk (Array.mk [65, 66, 67, 68, 69, 70, 71, 72, 73, 74, 75, 76, 77, 78, 79, 80, 81, 82, 83, 84, 85, 86, 87, 88, 89, 90, 97, 98, 99, 100, 101, 102, 103, 104, 105, 106, 107, 108, 109, 110, 111, 112, 113, 114, 115, 116, 117, 118, 119, 120, 121, 122, 48, 49, 50, 51, 52, 53, 54, 55, 56, 57, 43, 47])) ↑c.toNat))) (AV.v (Value.int IntKind.i64 (Int.ofNat v))))).a Cnd.t)).a (((Cnd.p (Wk (AV.v (Value.bool false)) (AV.lit false))).a Cnd.t).a (((Cnd.p (Wk (AV.v (Value.int IntKind.i64 (IntKind.i64.wrap (Int.ofNat n * Int.ofNat 64)))) (AV.v (Value.int IntKind.i64 (Int.ofNat (n * 64)))))).a Cnd.t).a (((Cnd.p (Wk (AV.v (Value.int IntKind.i64 (IntKind.i64.wrap ↑(BitVec.ofInt 64 (Int.ofNat (n * 64)) ||| BitVec.ofInt 64 (Int.ofNat v)).toNat))) (AV.v (Value.int IntKind.i64 (Int.ofNat (n * 64 + v)))))).a Cnd.t).a (((Cnd.p (Wk (AV.v (Value.int IntKind.i64 (IntKind.i64.wrap ↑(BitVec.ofInt 64 (Int.ofNat (n * 64 + v)) &&& BitVec.ofInt 64 (Int.ofNat 65535)).toNat))) (AV.v (Value.int IntKind.i64 (Int.ofNat n'))))).a Cnd.t).a (((Cnd.p (Wk (AV.v (Value.int IntKind.i64 (IntKind.i64.wrap (Int.ofNat bits + Int.ofNat 6)))) (AV.v (Value.int IntKind.i64 (Int.ofNat (bits + 6)))))).a Cnd.t).a (((Cnd.p (Wk (AV.v (Value.bool (decide (Int.ofNat (bits + 6) ≥ Int.ofNat 8)))) (AV.lit true))).a Cnd.t).a (((Cnd.p (Wk (AV.v (Value.int IntKind.i64 (IntKind.i64.wrap (Int.ofNat (bits + 6) - Int.ofNat 8)))) (AV.v (Value.int IntKind.i64 (Int.ofNat (bits + 6 - 8)))))).a Cnd.t).a (((Cnd.p (Wk (AV.v (Value.int IntKind.i64 ((Int.ofNat n').fdiv (Int.ofNat 2 ^ min (Int.ofNat (bits + 6 - 8)).toNat 64)))) (AV.v (Value.int IntKind.i64 (Int.ofNat m))))).a Cnd.t).a (((Cnd.p (Wk (AV.v (Value.int IntKind.u8 (IntKind.u8.wrap (Int.ofNat m)))) (AV.v (Value.int IntKind.u8 ↑x.toNat)))).a Cnd.t).a (((Cnd.p (true = true)).a ((Cnd.p (true = true)).a ((Cnd.p (true = true)).a ((Cnd.p (true = true)).a ((Cnd.p (true = true)).a ((Cnd.p (true = true)).a Cnd.t)))))).a (((Cnd.p (Wk (AV.v (Value.int IntKind.i64 (IntKind.i64.wrap (Int.ofNat i + Int.ofNat 1)))) (AV.v (Value.int IntKind.i64 (Int.ofNat (i + 1)))))).a Cnd.t).a Cnd.t))))))))))))))) := by kernel_rfl
theorem oB6k_eq (L O : List UInt8) (c : UInt8) (v n n' bits k i m q : Nat) (x : UInt8) (F : HP) : wLoop [(fIdxB, cIdxB)] (hB6 c v n n' bits i m x false) [] default fB64 (loopN fB64 8) (tms 0 63 (aB6 (sB 1000 q) n bits k i)) [(1001, rB1 L), (1000, rB O)] kB6 iB6 F = VT.leaf (AX.normal, [AV.slice 1000 0 q 1 (Cp.lo q), AV.v (Value.int IntKind.i64 (Int.ofNat n')), AV.v (Value.int IntKind.i64 (Int.ofNat (bits + 6))), AV.slice 1001 0 k 1 (Cp.lo k), AV.v (Value.int IntKind.i64 (Int.ofNat k)), AV.v (Value.int IntKind.i64 (Int.ofNat (i + 1)))], 63) [some (AO.cells (rowV encB L) 11), some (AO.cells (rowV encB O) 10), none, none, none] 1100 (((Cnd.p (Wk (AV.v (Value.bool (decide (Int.ofNat i < Int.ofNat k)))) (AV.lit true))).a Cnd.t).a (((Cnd.p (i.blt k = true)).a Cnd.t).a (((Cnd.p ((0 + i * 1).blt (rowV encB L).length = true)).a ((Cnd.p ((rowV encB L).getD (0 + i * 1) (AV.undef) = AV.v (Value.int IntKind.u8 ((rowV encB L).getD (0 + i * 1) (AV.undef)).intOf))).a ((Cnd.p (Wk (AV.v (Value.int IntKind.u8 ((rowV encB L).getD (0 + i * 1) (AV.undef)).intOf)) (AV.v (Value.int IntKind.u8 ↑c.toNat)))).a Cnd.t))).a (((Cnd.p True).a ((Cnd.p (Wk (AV.v (Value.int IntKind.i64 (idxC (ByteArray.mk (Array.mk [65, 66, 67, 68, 69, 70, 71, 72, 73, 74, 75, 76, 77, 78, 79, 80, 81, 82, 83, 84, 85, 86, 87, 88, 89, 90, 97, 98, 99, 100, 101, 102, 103, 104, 105, 106, 107, 108, 109, 110, 111, 112, 113, 114, 115, 116, 117, 118, 119, 120, 121, 122, 48, 49, 50, 51, 52, 53, 54, 55, 56, 57, 43, 47])) ↑c.toNat))) (AV.v (Value.int IntKind.i64 (Int.ofNat v))))).a Cnd.t)).a (((Cnd.p (Wk (AV.v (Value.bool false)) (AV.lit false))).a Cnd.t).a (((Cnd.p (Wk (AV.v (Value.int IntKind.i64 (IntKind.i64.wrap (Int.ofNat n * Int.ofNat 64)))) (AV.v (Value.int IntKind.i64 (Int.ofNat (n * 64)))))).a Cnd.t).a (((Cnd.p (Wk (AV.v (Value.int IntKind.i64 (IntKind.i64.wrap ↑(BitVec.ofInt 64 (Int.ofNat (n * 64)) ||| BitVec.ofInt 64 (Int.ofNat v)).toNat))) (AV.v (Value.int IntKind.i64 (Int.ofNat (n * 64 + v)))))).a Cnd.t).a (((Cnd.p (Wk (AV.v (Value.int IntKind.i64 (IntKind.i64.wrap ↑(BitVec.ofInt 64 (Int.ofNat (n * 64 + v)) &&& BitVec.ofInt 64 (Int.ofNat 65535)).toNat))) (AV.v (Value.int IntKind.i64 (Int.ofNat n'))))).a Cnd.t).a (((Cnd.p (Wk (AV.v (Value.int IntKind.i64 (IntKind.i64.wrap (Int.ofNat bits + Int.ofNat 6)))) (AV.v (Value.int IntKind.i64 (Int.ofNat (bits + 6)))))).a Cnd.t).a (((Cnd.p (Wk (AV.v (Value.bool (decide (Int.ofNat (bits + 6) ≥ Int.ofNat 8)))) (AV.lit false))).a Cnd.t).a (((Cnd.p (Wk (AV.v (Value.int IntKind.i64 (IntKind.i64.wrap (Int.ofNat i + Int.ofNat 1)))) (AV.v (Value.int IntKind.i64 (Int.ofNat (i + 1)))))).a Cnd.t).a Cnd.t))))))))))) := by kernel_rfl
theorem oB6o_eq (L O : List UInt8) (c : UInt8) (v n n' bits k i m q : Nat) (x : UInt8) (F : HP) : wLoop [(fIdxB, cIdxB)] (hB6 c v n n' bits i m x true) [] default fB64 (loopN fB64 8) (tms 0 63 (aB6 (sB 1000 q) n bits k i)) [(1001, rB1 L), (1000, rB O)] kB6 iB6 F = VT.leaf (AX.normal, [AV.slice 1101 0 (q + 1) 1 (Cp.lo (q + 1)), AV.v (Value.int IntKind.i64 (Int.ofNat n')), AV.v (Value.int IntKind.i64 (Int.ofNat (bits + 6 - 8))), AV.slice 1001 0 k 1 (Cp.lo k), AV.v (Value.int IntKind.i64 (Int.ofNat k)), AV.v (Value.int IntKind.i64 (Int.ofNat (i + 1)))], 63) [some (AO.cells (rowV encB L) 11), none, some (AO.cells [AV.v (Value.int IntKind.u8 ↑x.toNat)] 10), some (AO.cells (List.take (q * 1) (List.drop 0 (rowV encB O)) ++ [AV.v (Value.int IntKind.u8 ↑x.toNat)]) 10), none] 1102 (((Cnd.p (Wk (AV.v (Value.bool (decide (Int.ofNat i < Int.ofNat k)))) (AV.lit true))).a Cnd.t).a (((Cnd.p (i.blt k = true)).a Cnd.t).a (((Cnd.p ((0 + i * 1).blt (rowV encB L).length = true)).a ((Cnd.p ((rowV encB L).getD (0 + i * 1) (AV.undef) = AV.v (Value.int IntKind.u8 ((rowV encB L).getD (0 + i * 1) (AV.undef)).intOf))).a ((Cnd.p (Wk (AV.v (Value.int IntKind.u8 ((rowV encB L).getD (0 + i * 1) (AV.undef)).intOf)) (AV.v (Value.int IntKind.u8 ↑c.toNat)))).a Cnd.t))).a (((Cnd.p True).a ((Cnd.p (Wk (AV.v (Value.int IntKind.i64 (idxC (ByteArray.mk (Array.mk [65, 66, 67, 68, 69, 70, 71, 72, 73, 74, 75, 76, 77, 78, 79, 80, 81, 82, 83, 84, 85, 86, 87, 88, 89, 90, 97, 98, 99, 100, 101, 102, 103, 104, 105, 106, 107, 108, 109, 110, 111, 112, 113, 114, 115, 116, 117, 118, 119, 120, 121, 122, 48, 49, 50, 51, 52, 53, 54, 55, 56, 57, 43, 47])) ↑c.toNat))) (AV.v (Value.int IntKind.i64 (Int.ofNat v))))).a Cnd.t)).a (((Cnd.p (Wk (AV.v (Value.bool false)) (AV.lit false))).a Cnd.t).a (((Cnd.p (Wk (AV.v (Value.int IntKind.i64 (IntKind.i64.wrap (Int.ofNat n * Int.ofNat 64)))) (AV.v (Value.int IntKind.i64 (Int.ofNat (n * 64)))))).a Cnd.t).a (((Cnd.p (Wk (AV.v (Value.int IntKind.i64 (IntKind.i64.wrap ↑(BitVec.ofInt 64 (Int.ofNat (n * 64)) ||| BitVec.ofInt 64 (Int.ofNat v)).toNat))) (AV.v (Value.int IntKind.i64 (Int.ofNat (n * 64 + v)))))).a Cnd.t).a (((Cnd.p (Wk (AV.v (Value.int IntKind.i64 (IntKind.i64.wrap ↑(BitVec.ofInt 64 (Int.ofNat (n * 64 + v)) &&& BitVec.ofInt 64 (Int.ofNat 65535)).toNat))) (AV.v (Value.int IntKind.i64 (Int.ofNat n'))))).a Cnd.t).a (((Cnd.p (Wk (AV.v (Value.int IntKind.i64 (IntKind.i64.wrap (Int.ofNat bits + Int.ofNat 6)))) (AV.v (Value.int IntKind.i64 (Int.ofNat (bits + 6)))))).a Cnd.t).a (((Cnd.p (Wk (AV.v (Value.bool (decide (Int.ofNat (bits + 6) ≥ Int.ofNat 8)))) (AV.lit true))).a Cnd.t).a (((Cnd.p (Wk (AV.v (Value.int IntKind.i64 (IntKind.i64.wrap (Int.ofNat (bits + 6) - Int.ofNat 8)))) (AV.v (Value.int IntKind.i64 (Int.ofNat (bits + 6 - 8)))))).a Cnd.t).a (((Cnd.p (Wk (AV.v (Value.int IntKind.i64 ((Int.ofNat n').fdiv (Int.ofNat 2 ^ min (Int.ofNat (bits + 6 - 8)).toNat 64)))) (AV.v (Value.int IntKind.i64 (Int.ofNat m))))).a Cnd.t).a (((Cnd.p (Wk (AV.v (Value.int IntKind.u8 (IntKind.u8.wrap (Int.ofNat m)))) (AV.v (Value.int IntKind.u8 ↑x.toNat)))).a Cnd.t).a (((Cnd.p (true = true)).a ((Cnd.p (true = true)).a ((Cnd.p (true = true)).a ((Cnd.p (true = true)).a ((Cnd.p ((0 + q * 1).ble (rowV encB O).length = true)).a ((Cnd.p (((q + 1) * 1).ble 140737488355328 = true)).a ((Cnd.p ((q + 1).ble 9223372036854775807 = true)).a ((Cnd.p ((List.take (q * 1) (List.drop 0 (rowV encB O))).length.beq (q * 1) = true)).a Cnd.t)))))))).a (((Cnd.p (Wk (AV.v (Value.int IntKind.i64 (IntKind.i64.wrap (Int.ofNat i + Int.ofNat 1)))) (AV.v (Value.int IntKind.i64 (Int.ofNat (i + 1)))))).a Cnd.t).a Cnd.t))))))))))))))) := by kernel_rfl
theorem oB6E_eq (L O : List UInt8) (n bits k q : Nat) (F : HP) : wLoop [] (hintL [(fB64, 8, 0, hv (.lit false))]) [] default fB64 (loopN fB64 8) (tms 0 63 (aB6 (sB 1000 q) n bits k k)) [(1001, rB1 L), (1000, rB O)] kB6 iB6 F = VT.leaf (AX.exit 0, [AV.slice 1000 0 q 1 (Cp.lo q), AV.v (Value.int IntKind.i64 (Int.ofNat n)), AV.v (Value.int IntKind.i64 (Int.ofNat bits)), AV.slice 1001 0 k 1 (Cp.lo k), AV.v (Value.int IntKind.i64 (Int.ofNat k)), AV.v (Value.int IntKind.i64 (Int.ofNat k))], 63) [some (AO.cells (rowV encB L) 11), some (AO.cells (rowV encB O) 10), none, none, none] 1100 (((Cnd.p (Wk (AV.v (Value.bool (decide (Int.ofNat k < Int.ofNat k)))) (AV.lit false))).a Cnd.t).a Cnd.t) := by kernel_rfl
def gB6 : List AV → AP Nat := fun tmps => match getL tmps 23 with
  | .slice a _ _ _ _ => .ret a
  | _ => .fail "core"
def nmB6 (a : Nat) : Nat → Nat := fun k => match Nat.beq k 1001 with
  | true => a
  | false => k
def lB6 (L O : List UInt8) (n bits k q : Nat) : List AV → AP (AX × List AV) := mkL gB6 (fun _ => True) nmB6 (fun _ => tms 0 63 (aB6 nilB 0 0 k 0)) (fun _ => [(1001, rB1 L)]) (fun _ => .leaf (.exit 0) (tms 0 63 [(2, sB 1000 q), (5, iv (Int.ofNat n)), (6, iv (Int.ofNat bits))]) [(1000, rB O)])
def hB (core : ByteArray) (bits : Nat) : ClaimT := hintL [(fB64, 1, 3, hv (.lit false)), (fB64, 3, 1, hv (sv core)), (fB64, 4, 5, hv (.lit false)), (fB64, 7, 1, ho 1100 (rB1 core.data.toList)), (fB64, 18, 3, hv (iv (Int.ofNat (2 ^ bits)))), (fB64, 18, 4, hv (iv (Int.ofNat (2 ^ bits - 1)))), (fB64, 18, 5, hv (iv 0)), (fB64, 18, 6, hv (.lit true)), (fB64, 18, 9, hv (.lit true))]
theorem oB_eq (s core : ByteArray) (O : List UInt8) (n bits k q : Nat) (F : HP) : wRun [(fTrimR, cTrimR)] (hB core bits) [(fB64, 8, loopN fB64 8, lB6 core.data.toList O n bits k q)] default fB64 [sv s] [] [1100, 1101] F = VT.leaf (AV.tuple [AV.slice 1101 0 q 1 (Cp.lo q), AV.v (Value.bool true)]) [none, some (AO.cells (AV.rens (sgN (nmB6 1100) [1000] 1101) (rowV encB O)) 10)] 1102 (((Cnd.p (Wk (AV.v (Value.bool (((s.size : Nat) : Int).tmod (Int.ofNat 4) != Int.ofNat 0))) (AV.lit false))).a Cnd.t).a (((Cnd.p (s.size < 4294967281 ∧ 1 < 4294967281 ∧ asciiB (ByteArray.mk (Array.mk [61])))).a ((Cnd.p (Wk (AV.v (Value.string (trimR s (ByteArray.mk (Array.mk [61]))))) (AV.v (Value.string core)))).a Cnd.t)).a (((Cnd.p (Wk (AV.v (Value.bool (decide (IntKind.i64.wrap (↑s.size - ↑core.size) > Int.ofNat 2)))) (AV.lit false))).a Cnd.t).a (((Cnd.p (OW (AO.cells (vmap (List.map (fun b => Value.int IntKind.u8 ↑b.toNat) core.data.toList)) 11) (AO.cells (rowV encB core.data.toList) 11))).a Cnd.t).a ((Cnd.p ((fB64, 8, loopN fB64 8, lB6 core.data.toList O n bits k q).snd.snd.fst = (fB64, 8, loopN fB64 8, lB6 core.data.toList O n bits k q).snd.snd.fst)).a ((Cnd.p True).a ((Cnd.p (VW [AV.v (Value.string s), AV.undef, AV.v (Value.slice none 0 0), AV.v (Value.bool false), AV.v (Value.string core), AV.v (Value.int IntKind.i64 (Int.ofNat 0)), AV.v (Value.int IntKind.i64 (Int.ofNat 0)), AV.undef, AV.undef, AV.undef, AV.v (Value.string s), AV.v (Value.int IntKind.i64 ↑s.size), AV.v (Value.int IntKind.i64 (((s.size : Nat) : Int).tmod (Int.ofNat 4))), AV.lit false, AV.v (Value.string s), AV.v (Value.string core), AV.v (Value.string s), AV.v (Value.int IntKind.i64 ↑s.size), AV.v (Value.string core), AV.v (Value.int IntKind.i64 ↑core.size), AV.v (Value.int IntKind.i64 (IntKind.i64.wrap (↑s.size - ↑core.size))), AV.lit false, AV.v (Value.string core), AV.slice 1100 0 core.size 1 (Cp.lo core.size), AV.v (Value.int IntKind.i64 ↑core.size), AV.v (Value.int IntKind.i64 (Int.ofNat 0)), AV.undef, AV.undef, AV.undef, AV.undef, AV.undef, AV.undef, AV.undef, AV.undef, AV.undef, AV.undef, AV.undef, AV.undef, AV.undef, AV.undef, AV.undef, AV.undef, AV.undef, AV.undef, AV.undef, AV.undef, AV.undef, AV.undef, AV.undef, AV.undef, AV.undef, AV.undef, AV.undef, AV.undef, AV.undef, AV.undef, AV.undef, AV.undef, AV.undef, AV.undef, AV.undef, AV.undef, AV.undef] [AV.any, AV.any, AV.v (Value.slice none 0 0), AV.any, AV.any, AV.v (Value.int IntKind.i64 (Int.ofNat 0)), AV.v (Value.int IntKind.i64 (Int.ofNat 0)), AV.any, AV.any, AV.any, AV.any, AV.any, AV.any, AV.any, AV.any, AV.any, AV.any, AV.any, AV.any, AV.any, AV.any, AV.any, AV.any, AV.slice 1100 0 k 1 (Cp.lo k), AV.v (Value.int IntKind.i64 (Int.ofNat k)), AV.v (Value.int IntKind.i64 (Int.ofNat 0)), AV.any, AV.any, AV.any, AV.any, AV.any, AV.any, AV.any, AV.any, AV.any, AV.any, AV.any, AV.any, AV.any, AV.any, AV.any, AV.any, AV.any, AV.any, AV.any, AV.any, AV.any, AV.any, AV.any, AV.any, AV.any, AV.any, AV.any, AV.any, AV.any, AV.any, AV.any, AV.any, AV.any, AV.any, AV.any, AV.any, AV.any])).a ((Cnd.p (OW (AO.cells (rowV encB core.data.toList) 11) (AO.cells (AV.rens (nmB6 1100) (rowV encB core.data.toList)) 11))).a (((Cnd.p (Wk (AV.v (Value.int IntKind.i64 (IntKind.i64.wrap (Int.ofNat 1 * Int.ofNat 2 ^ min bits 64)))) (AV.v (Value.int IntKind.i64 (Int.ofNat (2 ^ bits)))))).a Cnd.t).a (((Cnd.p (Wk (AV.v (Value.int IntKind.i64 (IntKind.i64.wrap (Int.ofNat (2 ^ bits) - Int.ofNat 1)))) (AV.v (Value.int IntKind.i64 (Int.ofNat (2 ^ bits - 1)))))).a Cnd.t).a (((Cnd.p (Wk (AV.v (Value.int IntKind.i64 (IntKind.i64.wrap ↑(BitVec.ofInt 64 (Int.ofNat n) &&& BitVec.ofInt 64 (Int.ofNat (2 ^ bits - 1))).toNat))) (AV.v (Value.int IntKind.i64 (Int.ofNat 0))))).a Cnd.t).a (((Cnd.p (Wk (AV.v (Value.bool true)) (AV.lit true))).a Cnd.t).a (((Cnd.p (Wk (AV.v (Value.bool (decide (Int.ofNat bits < Int.ofNat 6)))) (AV.lit true))).a Cnd.t).a Cnd.t))))))))))))) := by kernel_rfl
end
end Go.Proofs.YtpijbbobejeemaaGreatDoor.Htp

/- Http: base 64: what is written is read again. Plain laws. No program. -/
set_option linter.unusedVariables false
set_option linter.unusedSimpArgs false
namespace Go.Proofs.YtpijbbobejeemaaGreatDoor.Htp
def alpha : List UInt8 := [65,66,67,68,69,70,71,72,73,74,75,76,77,78,79,80,81,82,83,84,85,86,87,88,89,90,97,98,99,100,101,102,103,104,105,106,107,108,109,110,111,112,113,114,115,116,117,118,119,120,121,122,48,49,50,51,52,53,54,55,56,57,43,47]
def letter (k : Nat) : UInt8 := alpha.getD k 0
def n3 (a b c : UInt8) : Nat := a.toNat * 65536 + b.toNat * 256 + c.toNat
def nums : List UInt8 → List Nat
  | [] => []
  | [a] => [n3 a 0 0 / 262144, n3 a 0 0 / 4096 % 64]
  | [a, b] => [n3 a b 0 / 262144, n3 a b 0 / 4096 % 64, n3 a b 0 / 64 % 64]
  | a :: b :: c :: l => n3 a b c / 262144 :: n3 a b c / 4096 % 64 :: n3 a b c / 64 % 64 :: n3 a b c % 64 :: nums l
def pad : List UInt8 → Nat
  | [] => 0
  | [_] => 2
  | [_, _] => 1
  | _ :: _ :: _ :: l => pad l
def coreL (b : List UInt8) : List UInt8 := (nums b).map letter
def encL (b : List UInt8) : List UInt8 := coreL b ++ List.replicate (pad b) 61
def dstep (q : Nat × Nat × List UInt8) (v : Nat) : Nat × Nat × List UInt8 :=
  if q.2.1 + 6 ≥ 8 then ((q.1 * 64 + v) % 65536, q.2.1 + 6 - 8, q.2.2 ++ [UInt8.ofNat ((q.1 * 64 + v) % 65536 / 2 ^ (q.2.1 + 6 - 8))])
  else ((q.1 * 64 + v) % 65536, q.2.1 + 6, q.2.2)
def dall (q : Nat × Nat × List UInt8) (l : List Nat) : Nat × Nat × List UInt8 := l.foldl dstep q
theorem pad_le : ∀ b, pad b ≤ 2
  | [] => by simp [pad]
  | [_] => by simp [pad]
  | [_, _] => by simp [pad]
  | _ :: _ :: _ :: l => by rw [pad]; exact pad_le l
theorem n3_lt (a b c : UInt8) : n3 a b c < 16777216 := by
  have h1 := a.toNat_lt; have h2 := b.toNat_lt; have h3 := c.toNat_lt
  unfold n3; omega
theorem nums_lt : ∀ (b : List UInt8), ∀ v ∈ nums b, v < 64
  | [], v, h => by cases h
  | [a], v, h => by
    have := n3_lt a 0 0
    simp only [nums, List.mem_cons, List.not_mem_nil, or_false] at h
    omega
  | [a, b], v, h => by
    have := n3_lt a b 0
    simp only [nums, List.mem_cons, List.not_mem_nil, or_false] at h
    omega
  | a :: b :: c :: l, v, h => by
    have := n3_lt a b c
    simp only [nums, List.mem_cons] at h
    rcases h with h | h | h | h | h
    · omega
    · omega
    · omega
    · omega
    · exact nums_lt l v h
theorem nums_pad : ∀ b : List UInt8, ((nums b).length + pad b) % 4 = 0
  | [] => rfl
  | [_] => by simp [nums, pad]
  | [_, _] => by simp [nums, pad]
  | a :: b :: c :: l => by
    have := nums_pad l
    simp only [nums, pad, List.length_cons]; omega
theorem nums_len : ∀ b : List UInt8, (nums b).length ≤ b.length * 2
  | [] => by simp [nums]
  | [_] => by simp [nums]
  | [_, _] => by simp [nums]
  | a :: b :: c :: l => by
    have := nums_len l
    simp only [nums, List.length_cons]; omega
theorem letter_ne {k : Nat} (h : k < 64) : letter k ≠ 61 := by
  have : ∀ k : Fin 64, letter k.1 ≠ 61 := by decide
  exact this ⟨k, h⟩
theorem coreL_ne (b : List UInt8) : ∀ c ∈ coreL b, c ≠ 61 := by
  intro c h
  obtain ⟨v, hv, rfl⟩ := List.mem_map.1 h
  exact letter_ne (nums_lt b v hv)
theorem encL_mod (b : List UInt8) : (encL b).length % 4 = 0 := by
  simp only [encL, coreL, List.length_append, List.length_map, List.length_replicate]
  exact nums_pad b
theorem u8_of {n : Nat} {a : UInt8} (h : n % 256 = a.toNat) : UInt8.ofNat n = a := by
  apply UInt8.toNat_inj.1
  rw [UInt8.toNat_ofNat']; exact h
theorem dall_group (a b c : UInt8) (n : Nat) (out : List UInt8) : ∃ n', dall (n, 0, out) [n3 a b c / 262144, n3 a b c / 4096 % 64, n3 a b c / 64 % 64, n3 a b c % 64] = (n', 0, out ++ [a, b, c]) := by
  have h1 := a.toNat_lt; have h2 := b.toNat_lt; have h3 := c.toNat_lt
  have e : n3 a b c = a.toNat * 65536 + b.toNat * 256 + c.toNat := rfl
  generalize n3 a b c = m at e
  refine ⟨((((n * 64 + m / 262144) % 65536 * 64 + m / 4096 % 64) % 65536 * 64 + m / 64 % 64) % 65536 * 64 + m % 64) % 65536, ?_⟩
  simp only [dall, List.foldl_cons, List.foldl_nil, dstep]
  simp only [show ¬ (0 + 6 ≥ 8) from by decide, if_false, show (0 + 6 + 6 ≥ 8) from by decide, if_true, show 0 + 6 + 6 - 8 = 4 from rfl, show (4 + 6 ≥ 8) from by decide, show 4 + 6 - 8 = 2 from rfl, show (2 + 6 ≥ 8) from by decide, show 2 + 6 - 8 = 0 from rfl, List.append_assoc, List.cons_append, List.nil_append]
  rw [u8_of (a := a), u8_of (a := b), u8_of (a := c)]
  · simp only [Nat.pow_zero, Nat.div_one]; omega
  · simp only [show 2 ^ 2 = 4 from rfl]; omega
  · simp only [show 2 ^ 4 = 16 from rfl]; omega
theorem dall_append (q : Nat × Nat × List UInt8) (l r : List Nat) : dall q (l ++ r) = dall (dall q l) r := by simp [dall]
theorem dec_enc : ∀ (b : List UInt8) (n : Nat) (out : List UInt8), ∃ n' k, dall (n, 0, out) (nums b) = (n', k, out ++ b) ∧ k < 6 ∧ n' % 2 ^ k = 0
  | [], n, out => ⟨n, 0, by simp [nums, dall], by decide, by simp [Nat.mod_one]⟩
  | [a], n, out => by
    have h1 := a.toNat_lt
    have e : n3 a 0 0 = a.toNat * 65536 := by unfold n3; simp
    rw [nums]
    generalize n3 a 0 0 = m at e
    refine ⟨((n * 64 + m / 262144) % 65536 * 64 + m / 4096 % 64) % 65536, 4, ?_, by decide, ?_⟩
    · simp only [dall, List.foldl_cons, List.foldl_nil, dstep]
      simp only [show ¬ (0 + 6 ≥ 8) from by decide, if_false, show (0 + 6 + 6 ≥ 8) from by decide, if_true, show 0 + 6 + 6 - 8 = 4 from rfl]
      rw [u8_of (a := a)]
      simp only [show 2 ^ 4 = 16 from rfl]; omega
    · simp only [show 2 ^ 4 = 16 from rfl]; omega
  | [a, b], n, out => by
    have h1 := a.toNat_lt; have h2 := b.toNat_lt
    have e : n3 a b 0 = a.toNat * 65536 + b.toNat * 256 := by unfold n3; simp
    rw [nums]
    generalize n3 a b 0 = m at e
    refine ⟨(((n * 64 + m / 262144) % 65536 * 64 + m / 4096 % 64) % 65536 * 64 + m / 64 % 64) % 65536, 2, ?_, by decide, ?_⟩
    · simp only [dall, List.foldl_cons, List.foldl_nil, dstep]
      simp only [show ¬ (0 + 6 ≥ 8) from by decide, if_false, show (0 + 6 + 6 ≥ 8) from by decide, if_true, show 0 + 6 + 6 - 8 = 4 from rfl, show (4 + 6 ≥ 8) from by decide, show 4 + 6 - 8 = 2 from rfl, List.append_assoc, List.cons_append, List.nil_append]
      rw [u8_of (a := a), u8_of (a := b)]
      · simp only [show 2 ^ 2 = 4 from rfl]; omega
      · simp only [show 2 ^ 4 = 16 from rfl]; omega
    · simp only [show 2 ^ 2 = 4 from rfl]; omega
  | a :: b :: c :: l, n, out => by
    obtain ⟨n1, h1⟩ := dall_group a b c n out
    obtain ⟨n2, k, h2, h3, h4⟩ := dec_enc l n1 (out ++ [a, b, c])
    refine ⟨n2, k, ?_, h3, h4⟩
    have : nums (a :: b :: c :: l) = [n3 a b c / 262144, n3 a b c / 4096 % 64, n3 a b c / 64 % 64, n3 a b c % 64] ++ nums l := rfl
    rw [this, dall_append, h1, h2]
    simp
end Go.Proofs.YtpijbbobejeemaaGreatDoor.Htp

/- Http: base 64: what the loop and the function hand back. -/
set_option linter.unusedVariables false
set_option linter.unusedSimpArgs false
set_option maxRecDepth 100000
namespace Go.Proofs.YtpijbbobejeemaaGreatDoor.Htp
open Go Go.RowKit Go.Proofs.YtpijbbobejeemaaGreatDoor.Eng Go.Proofs.YtpijbbobejeemaaGreatDoor.Kit
theorem w_in {n : Nat} (h : n < 9223372036854775808) : IntKind.i64.wrap (Int.ofNat n) = Int.ofNat n := IntWalk.i64_in _ (by simp only [Int.ofNat_eq_natCast]; omega)
theorem w_cast {n : Nat} (h : n < 9223372036854775808) : IntKind.i64.wrap (n : Int) = Int.ofNat n := w_in h
theorem w_mul {a b : Nat} (h : a * b < 9223372036854775808) : IntKind.i64.wrap (Int.ofNat a * Int.ofNat b) = Int.ofNat (a * b) := by
  have : Int.ofNat a * Int.ofNat b = Int.ofNat (a * b) := by simp
  rw [this, w_in h]
theorem w_add {a b : Nat} (h : a + b < 9223372036854775808) : IntKind.i64.wrap (Int.ofNat a + Int.ofNat b) = Int.ofNat (a + b) := by
  have : Int.ofNat a + Int.ofNat b = Int.ofNat (a + b) := by simp
  rw [this, w_in h]
theorem w_sub {a b : Nat} (h : b ≤ a) (h2 : a < 9223372036854775808) : IntKind.i64.wrap (Int.ofNat a - Int.ofNat b) = Int.ofNat (a - b) := by
  have : Int.ofNat a - Int.ofNat b = Int.ofNat (a - b) := by simp only [Int.ofNat_eq_natCast]; omega
  rw [this, w_in (by omega)]
theorem bv_nat (m : Nat) : (BitVec.ofInt 64 (Int.ofNat m)).toNat = m % 18446744073709551616 := by
  rw [BitVec.toNat_ofInt]
  simp only [Int.ofNat_eq_natCast]
  omega
theorem w_or {n v : Nat} (hn : n < 65536) (hv : v < 64) : IntKind.i64.wrap ↑(BitVec.ofInt 64 (Int.ofNat (n * 64)) ||| BitVec.ofInt 64 (Int.ofNat v)).toNat = Int.ofNat (n * 64 + v) := by
  rw [BitVec.toNat_or, bv_nat, bv_nat, Nat.mod_eq_of_lt (by omega), Nat.mod_eq_of_lt (by omega)]
  have h := Nat.shiftLeft_add_eq_or_of_lt (i := 6) (b := v) (by omega) n
  rw [Nat.shiftLeft_eq] at h
  rw [show n * 64 ||| v = n * 64 + v from h.symm, w_cast (by omega)]
theorem w_and {m k : Nat} (hm : m < 9223372036854775808) (hk : k ≤ 32) : IntKind.i64.wrap ↑(BitVec.ofInt 64 (Int.ofNat m) &&& BitVec.ofInt 64 (Int.ofNat (2 ^ k - 1))).toNat = Int.ofNat (m % 2 ^ k) := by
  have h2 : 2 ^ k ≤ 2 ^ 32 := Nat.pow_le_pow_right (by decide) hk
  have h3 : 0 < 2 ^ k := Nat.two_pow_pos k
  rw [BitVec.toNat_and, bv_nat, bv_nat, Nat.mod_eq_of_lt (by omega), Nat.mod_eq_of_lt (by omega), Nat.and_two_pow_sub_one_eq_mod]
  have := Nat.mod_lt m h3
  exact w_cast (by omega)
theorem w_and16 {m : Nat} (hm : m < 9223372036854775808) : IntKind.i64.wrap ↑(BitVec.ofInt 64 (Int.ofNat m) &&& BitVec.ofInt 64 (Int.ofNat 65535)).toNat = Int.ofNat (m % 65536) := w_and (k := 16) hm (by decide)
theorem w_shr {n k : Nat} (hk : k ≤ 60) : (Int.ofNat n).fdiv (Int.ofNat 2 ^ min (Int.ofNat k).toNat 64) = Int.ofNat (n / 2 ^ k) := by
  have h1 : min (Int.ofNat k).toNat 64 = k := by simp only [Int.ofNat_eq_natCast, Int.toNat_natCast]; omega
  rw [h1]
  have h2 : (Int.ofNat 2 : Int) ^ k = Int.ofNat (2 ^ k) := by simp
  rw [h2]
  have h3 : (0 : Int) ≤ Int.ofNat (2 ^ k) := Int.natCast_nonneg _
  rw [Int.fdiv_eq_ediv_of_nonneg _ h3]
  rfl
theorem w_u8 (m : Nat) : IntKind.u8.wrap (Int.ofNat m) = ((UInt8.ofNat m).toNat : Int) := by
  rw [UInt8.toNat_ofNat']
  simp only [IntKind.wrap]
  simp [IntKind.bits, IntKind.signed]
theorem letter_idx {v : Nat} (h : v < 64) : idxC (ByteArray.mk (Array.mk [65, 66, 67, 68, 69, 70, 71, 72, 73, 74, 75, 76, 77, 78, 79, 80, 81, 82, 83, 84, 85, 86, 87, 88, 89, 90, 97, 98, 99, 100, 101, 102, 103, 104, 105, 106, 107, 108, 109, 110, 111, 112, 113, 114, 115, 116, 117, 118, 119, 120, 121, 122, 48, 49, 50, 51, 52, 53, 54, 55, 56, 57, 43, 47])) ↑(letter v).toNat = Int.ofNat v := by
  have key : ∀ v : Fin 64, Lib.indexByte alpha (letter v.1) = Int.ofNat v.1 := by decide +kernel
  have h2 := key ⟨v, h⟩
  unfold idxC
  have : ((letter v).toNat : Int).toNat.toUInt8 = letter v := by simp
  rw [this]
  exact h2
/-! The loop's states. -/
def stQ (V : List Nat) (i : Nat) : Nat × Nat × List UInt8 := dall (0, 0, []) (V.take i)
theorem stQ_succ (V : List Nat) (i : Nat) (h : i < V.length) : stQ V (i + 1) = dstep (stQ V i) (V.getD i 0) := by
  unfold stQ
  rw [take_next V 0 i h, dall_append]
  rfl
def Even6 (b : Nat) : Prop := b = 0 ∨ b = 2 ∨ b = 4 ∨ b = 6
theorem dstep_inv {q : Nat × Nat × List UInt8} {v : Nat} (h : q.1 < 65536 ∧ Even6 q.2.1) : (dstep q v).1 < 65536 ∧ Even6 (dstep q v).2.1 := by
  obtain ⟨h1, h2⟩ := h
  unfold dstep
  split
  · refine ⟨Nat.mod_lt _ (by decide), ?_⟩
    rename_i hb
    show Even6 (q.2.1 + 6 - 8)
    unfold Even6 at *
    omega
  · refine ⟨Nat.mod_lt _ (by decide), ?_⟩
    rename_i hb
    show Even6 (q.2.1 + 6)
    unfold Even6 at *
    omega
theorem stQ_inv (V : List Nat) : ∀ i, i ≤ V.length → (stQ V i).1 < 65536 ∧ Even6 (stQ V i).2.1
  | 0, _ => ⟨by simp [stQ, dall], .inl (by simp [stQ, dall])⟩
  | i + 1, h => by rw [stQ_succ V i (by omega)]; exact dstep_inv (stQ_inv V i (by omega))
theorem dstep_out (q : Nat × Nat × List UInt8) (v : Nat) : (dstep q v).2.2.length ≤ q.2.2.length + 1 := by
  unfold dstep
  split <;> simp
theorem stQ_out (V : List Nat) : ∀ i, i ≤ V.length → (stQ V i).2.2.length ≤ i
  | 0, _ => by simp [stQ, dall]
  | i + 1, h => by
    rw [stQ_succ V i (by omega)]
    have := dstep_out (stQ V i) (V.getD i 0)
    have := stQ_out V i (by omega)
    omega
def outV : List UInt8 → AV
  | [] => nilB
  | x :: r => sB 1000 (r.length + 1)
def outH (L : List UInt8) : List UInt8 → LH
  | [] => [(1001, rB1 L)]
  | x :: r => [(1001, rB1 L), (1000, rB (x :: r))]
theorem outH_lt (L O : List UInt8) : namesLt 1100 (outH L O) = true := by cases O <;> rfl
theorem outV_snoc (O : List UInt8) (x : UInt8) : outV (O ++ [x]) = sB 1000 (O.length + 1) := by
  cases O with
  | nil => rfl
  | cons y r => simp [outV]
theorem outH_snoc (L O : List UInt8) (x : UInt8) : outH L (O ++ [x]) = [(1001, rB1 L), (1000, rB (O ++ [x]))] := by
  cases O <;> rfl
def aSt (q : Nat × Nat × List UInt8) (k i : Nat) : List (Nat × AV) := aB6 (outV q.2.2) q.1 q.2.1 k i
theorem geF {a b : Nat} (h : a < b) : decide (Int.ofNat a ≥ Int.ofNat b) = false := decide_eq_false (by simp only [Int.ofNat_eq_natCast]; omega)
theorem geT {a b : Nat} (h : b ≤ a) : decide (Int.ofNat a ≥ Int.ofNat b) = true := decide_eq_true (by simp only [Int.ofNat_eq_natCast]; omega)
theorem ltT {a b : Nat} (h : a < b) : decide (Int.ofNat a < Int.ofNat b) = true := decide_eq_true (by simp only [Int.ofNat_eq_natCast]; omega)
theorem ltF {a b : Nat} (h : b ≤ a) : decide (Int.ofNat a < Int.ofNat b) = false := decide_eq_false (by simp only [Int.ofNat_eq_natCast]; omega)
theorem b6_loop (V : List Nat) (hV : ∀ v ∈ V, v < 64) (hl : V.length ≤ 4000000) (h2 : (stQ V V.length).2.2 ≠ []) :
    LTri Tryz.prog default (loopN fB64 8) (tms 0 63 (aB6 nilB 0 0 V.length 0)) [(1001, rB1 (V.map letter))] (.exit 0) (tms 0 63 [(2, sB 1000 (stQ V V.length).2.2.length), (5, iv (Int.ofNat (stQ V V.length).1)), (6, iv (Int.ofNat (stQ V V.length).2.1))]) [(1000, rB (stQ V V.length).2.2)] := by
  have hL : (V.map letter).length = V.length := List.length_map ..
  refine ltri_run (W := default) (g := fB64) (b := loopN fB64 8) (σ := {i : Nat // i ≤ V.length}) 63 (fun i => aSt (stQ V i.1) V.length i.1) (fun i => outH (V.map letter) (stQ V i.1).2.2) (.exit 0) _ [(1000, rB (stQ V V.length).2.2)] (fun i => V.length - i.1) kB6 iB6 (by intro h; cases h) (fun i => outH_lt _ _) rfl ?_ ⟨0, Nat.zero_le _⟩
  rintro ⟨i, hi⟩
  simp only
  by_cases h1 : i < V.length
  · have hw := wrap_succ i (by omega)
    have e1 := ltT h1
    have g0 := rB_get (V.map letter) i (by omega)
    have g1 := rB_lt (V.map letter) i (by omega)
    have gc : (V.map letter).getD i 0 = letter (V.getD i 0) := by
      simp [List.getD_eq_getElem?_getD, List.getElem?_map, List.getElem?_eq_getElem h1]
    have hv : V.getD i 0 < 64 := hV _ (getD_lt h1)
    have hix := letter_idx hv
    rw [gc] at g0
    obtain ⟨i1, i2⟩ := stQ_inv V i hi
    have i3 := stQ_out V i hi
    have hs := stQ_succ V i h1
    have hsA : aSt (stQ V (i + 1)) V.length (i + 1) = aSt (dstep (stQ V i) (V.getD i 0)) V.length (i + 1) := by rw [hs]
    have hsH : outH (V.map letter) (stQ V (i + 1)).2.2 = outH (V.map letter) (dstep (stQ V i) (V.getD i 0)).2.2 := by rw [hs]
    generalize hq : stQ V i = q at *
    obtain ⟨n, bits, O⟩ := q
    simp only at i1 i2 i3
    generalize V.getD i 0 = v at *
    have m1 := w_mul (a := n) (b := 64) (by omega)
    have m2 := w_or i1 hv
    have m3 := w_and16 (m := n * 64 + v) (by omega)
    have m4 : IntKind.i64.wrap (Int.ofNat bits + Int.ofNat 6) = Int.ofNat (bits + 6) := w_add (by unfold Even6 at i2; omega)
    have i2b : bits ≤ 6 := by unfold Even6 at i2; omega
    by_cases hbig : bits + 6 ≥ 8
    · have hd : dstep (n, bits, O) v = ((n * 64 + v) % 65536, bits + 6 - 8, O ++ [UInt8.ofNat ((n * 64 + v) % 65536 / 2 ^ (bits + 6 - 8))]) := by
        unfold dstep; exact if_pos hbig
      rw [hd] at hsA hsH
      have e2 := geT hbig
      have m5 := w_sub (a := bits + 6) (b := 8) hbig (by omega)
      have m6 := w_shr (n := (n * 64 + v) % 65536) (k := bits + 6 - 8) (by omega)
      have m7 := w_u8 ((n * 64 + v) % 65536 / 2 ^ (bits + 6 - 8))
      generalize UInt8.ofNat ((n * 64 + v) % 65536 / 2 ^ (bits + 6 - 8)) = x at *
      generalize hn' : (n * 64 + v) % 65536 = n' at *
      generalize n' / 2 ^ (bits + 6 - 8) = m at *
      have hA : aSt (stQ V (i + 1)) V.length (i + 1) = aB6 (sB 1000 (O.length + 1)) n' (bits + 6 - 8) V.length (i + 1) := by rw [hsA]; unfold aSt; rw [outV_snoc]
      have hH : outH (V.map letter) (stQ V (i + 1)).2.2 = [(1001, rB1 (V.map letter)), (1000, rB (O ++ [x]))] := by rw [hsH, outH_snoc]
      cases O with
      | nil =>
        refine ⟨[(fIdxB, cIdxB)], hB6 (letter v) v n n' bits i m x true, [], fun F hF => one_c (cIdxB_ok (W := default) hF), fun _ _ => noL, fun F => ?_⟩
        refine cast (congrArg (VAll _) (oB6n_eq (V.map letter) (letter v) v n n' bits V.length i m x F).symm) ⟨⟨?_, rfl, .inl ⟨rfl, ⟨i + 1, h1⟩, sub_down h1, [(1001, 1001), (1000, 1101)], ?_⟩⟩⟩
        · simp only [Cnd.holds, e1, e2, g0, g1, h1, byv, AV.intOf, Nat.blt_eq, true_and, and_true]
          and_intros
          all_goals first
            | (with_reducible exact wk_int hw)
            | (with_reducible exact wk_int hix)
            | (with_reducible exact wk_int m1)
            | (with_reducible exact wk_int m2)
            | (with_reducible exact wk_int m3)
            | (with_reducible exact wk_int m4)
            | (with_reducible exact wk_int m5)
            | (with_reducible exact wk_int m6)
            | (with_reducible exact wk_u8 m7)
            | (with_reducible exact trivial)
            | (with_reducible exact rfl)
            | (with_reducible exact Wk.refl _)
            | (with_reducible exact VW.refl _)
            | (with_reducible exact OW.refl _)
            | (with_reducible exact wk_lit _)
            | (with_reducible assumption)
            | exact rfl
            | exact Wk.refl _
            | exact VW.refl _
            | exact OW.refl _
            | ((repeat (first | exact VW.nil | refine VW.cons (Wk.refl _) ?_ | refine VW.cons (Wk.any _) ?_ | refine VW.cons (wk_cap (Nat.le_refl _)) ?_)); done)
        · show FitT _ _ _ _ (aSt (stQ V (i + 1)) V.length (i + 1)) (outH (V.map letter) (stQ V (i + 1)).2.2) _
          rw [hA, hH]
          exact ⟨by kernel_rfl, by kernel_rfl, ⟨Wk.refl _, Wk.refl _, Wk.refl _, Wk.refl _, Wk.refl _, Wk.refl _, trivial⟩, ⟨_, rfl, rB1_ow rfl rfl⟩, ⟨_, rfl, rB_ow rfl rfl⟩, trivial⟩
      | cons y r =>
        have k1 : (0 + (y :: r).length * 1).ble (rowV encB (y :: r)).length = true := row_in encB_len _
        have k2 : (List.take ((y :: r).length * 1) (List.drop 0 (rowV encB (y :: r)))).length.beq ((y :: r).length * 1) = true := row_full encB_len _
        have k3 : List.take ((y :: r).length * 1) (List.drop 0 (rowV encB (y :: r))) ++ [byv x] = rowV encB ((y :: r) ++ [x]) := row_addW encB_len _ x
        generalize hO : y :: r = O at *
        have hq2 : aSt (n, bits, O) V.length i = aB6 (sB 1000 O.length) n bits V.length i := by rw [← hO]; rfl
        have hq3 : outH (V.map letter) O = [(1001, rB1 (V.map letter)), (1000, rB O)] := by rw [← hO]; rfl
        rw [hq2, hq3]
        refine ⟨[(fIdxB, cIdxB)], hB6 (letter v) v n n' bits i m x true, [], fun F hF => one_c (cIdxB_ok (W := default) hF), fun _ _ => noL, fun F => ?_⟩
        refine cast (congrArg (VAll _) (oB6o_eq (V.map letter) O (letter v) v n n' bits V.length i m O.length x F).symm) ⟨⟨?_, rfl, .inl ⟨rfl, ⟨i + 1, h1⟩, sub_down h1, [(1001, 1001), (1000, 1101)], ?_⟩⟩⟩
        · have q1 : ((O.length + 1) * 1).ble 140737488355328 = true := by rw [Nat.ble_eq]; omega
          have q2 : (O.length + 1).ble 9223372036854775807 = true := by rw [Nat.ble_eq]; omega
          simp only [Cnd.holds, e1, e2, g0, g1, h1, k1, k2, k3, q1, q2, byv, AV.intOf, Nat.blt_eq, true_and, and_true]
          and_intros
          all_goals first
            | (with_reducible exact wk_int hw)
            | (with_reducible exact wk_int hix)
            | (with_reducible exact wk_int m1)
            | (with_reducible exact wk_int m2)
            | (with_reducible exact wk_int m3)
            | (with_reducible exact wk_int m4)
            | (with_reducible exact wk_int m5)
            | (with_reducible exact wk_int m6)
            | (with_reducible exact wk_u8 m7)
            | (with_reducible exact trivial)
            | (with_reducible exact rfl)
            | (with_reducible exact Wk.refl _)
            | (with_reducible exact VW.refl _)
            | (with_reducible exact OW.refl _)
            | (with_reducible exact wk_lit _)
            | (with_reducible assumption)
            | exact rfl
            | exact Wk.refl _
            | exact VW.refl _
            | exact OW.refl _
            | ((repeat (first | exact VW.nil | refine VW.cons (Wk.refl _) ?_ | refine VW.cons (Wk.any _) ?_ | refine VW.cons (wk_cap (Nat.le_refl _)) ?_)); done)
        · show FitT _ _ _ _ (aSt (stQ V (i + 1)) V.length (i + 1)) (outH (V.map letter) (stQ V (i + 1)).2.2) _
          rw [hA, hH]
          exact ⟨by kernel_rfl, by kernel_rfl, ⟨Wk.refl _, Wk.refl _, Wk.refl _, Wk.refl _, Wk.refl _, Wk.refl _, trivial⟩, ⟨_, rfl, rB1_ow rfl rfl⟩, ⟨_, rfl, rB_ow k3 rfl⟩, trivial⟩
    · have hd : dstep (n, bits, O) v = ((n * 64 + v) % 65536, bits + 6, O) := by
        unfold dstep; exact if_neg hbig
      rw [hd] at hsA hsH
      have e2 := geF (a := bits + 6) (b := 8) (by omega)
      generalize hn' : (n * 64 + v) % 65536 = n' at *
      have hA : aSt (stQ V (i + 1)) V.length (i + 1) = aB6 (outV O) n' (bits + 6) V.length (i + 1) := hsA
      cases O with
      | nil =>
        refine ⟨[(fIdxB, cIdxB)], hB6 (letter v) v n n' bits i 0 0 false, [], fun F hF => one_c (cIdxB_ok (W := default) hF), fun _ _ => noL, fun F => ?_⟩
        refine cast (congrArg (VAll _) (oB6s_eq (V.map letter) (letter v) v n n' bits V.length i 0 0 F).symm) ⟨⟨?_, rfl, .inl ⟨rfl, ⟨i + 1, h1⟩, sub_down h1, [(1001, 1001)], ?_⟩⟩⟩
        · simp only [Cnd.holds, e1, e2, g0, g1, h1, byv, AV.intOf, Nat.blt_eq, true_and, and_true]
          and_intros
          all_goals first
            | (with_reducible exact wk_int hw)
            | (with_reducible exact wk_int hix)
            | (with_reducible exact wk_int m1)
            | (with_reducible exact wk_int m2)
            | (with_reducible exact wk_int m3)
            | (with_reducible exact wk_int m4)
            | (with_reducible exact trivial)
            | (with_reducible exact rfl)
            | (with_reducible exact Wk.refl _)
            | (with_reducible exact VW.refl _)
            | (with_reducible exact OW.refl _)
            | (with_reducible exact wk_lit _)
            | (with_reducible assumption)
            | exact rfl
            | exact Wk.refl _
            | exact VW.refl _
            | exact OW.refl _
            | ((repeat (first | exact VW.nil | refine VW.cons (Wk.refl _) ?_ | refine VW.cons (Wk.any _) ?_ | refine VW.cons (wk_cap (Nat.le_refl _)) ?_)); done)
        · show FitT _ _ _ _ (aSt (stQ V (i + 1)) V.length (i + 1)) (outH (V.map letter) (stQ V (i + 1)).2.2) _
          rw [hA, hsH]
          exact ⟨by kernel_rfl, by kernel_rfl, ⟨Wk.refl _, Wk.refl _, Wk.refl _, Wk.refl _, Wk.refl _, Wk.refl _, trivial⟩, ⟨_, rfl, rB1_ow rfl rfl⟩, trivial⟩
      | cons y r =>
        generalize hO : y :: r = O at *
        have hq2 : aSt (n, bits, O) V.length i = aB6 (sB 1000 O.length) n bits V.length i := by rw [← hO]; rfl
        have hq3 : outH (V.map letter) O = [(1001, rB1 (V.map letter)), (1000, rB O)] := by rw [← hO]; rfl
        have hq4 : outV O = sB 1000 O.length := by rw [← hO]; rfl
        rw [hq2, hq3]
        refine ⟨[(fIdxB, cIdxB)], hB6 (letter v) v n n' bits i 0 0 false, [], fun F hF => one_c (cIdxB_ok (W := default) hF), fun _ _ => noL, fun F => ?_⟩
        refine cast (congrArg (VAll _) (oB6k_eq (V.map letter) O (letter v) v n n' bits V.length i 0 O.length 0 F).symm) ⟨⟨?_, rfl, .inl ⟨rfl, ⟨i + 1, h1⟩, sub_down h1, [(1001, 1001), (1000, 1000)], ?_⟩⟩⟩
        · simp only [Cnd.holds, e1, e2, g0, g1, h1, byv, AV.intOf, Nat.blt_eq, true_and, and_true]
          and_intros
          all_goals first
            | (with_reducible exact wk_int hw)
            | (with_reducible exact wk_int hix)
            | (with_reducible exact wk_int m1)
            | (with_reducible exact wk_int m2)
            | (with_reducible exact wk_int m3)
            | (with_reducible exact wk_int m4)
            | (with_reducible exact trivial)
            | (with_reducible exact rfl)
            | (with_reducible exact Wk.refl _)
            | (with_reducible exact VW.refl _)
            | (with_reducible exact OW.refl _)
            | (with_reducible exact wk_lit _)
            | (with_reducible assumption)
            | exact rfl
            | exact Wk.refl _
            | exact VW.refl _
            | exact OW.refl _
            | ((repeat (first | exact VW.nil | refine VW.cons (Wk.refl _) ?_ | refine VW.cons (Wk.any _) ?_ | refine VW.cons (wk_cap (Nat.le_refl _)) ?_)); done)
        · show FitT _ _ _ _ (aSt (stQ V (i + 1)) V.length (i + 1)) (outH (V.map letter) (stQ V (i + 1)).2.2) _
          rw [hA, hsH, hq3, hq4]
          exact ⟨by kernel_rfl, by kernel_rfl, ⟨Wk.refl _, Wk.refl _, Wk.refl _, Wk.refl _, Wk.refl _, Wk.refl _, trivial⟩, ⟨_, rfl, rB1_ow rfl rfl⟩, ⟨_, rfl, rB_ow rfl rfl⟩, trivial⟩
  · have hje : i = V.length := by omega
    subst hje
    generalize stQ V V.length = q at *
    obtain ⟨n, bits, O⟩ := q
    simp only at h2
    cases O with
    | nil => exact absurd rfl h2
    | cons y r =>
      refine ⟨[], hintL [(fB64, 8, 0, hv (.lit false))], [], fun _ _ => noC, fun _ _ => noL, fun F => ?_⟩
      refine cast (congrArg (VAll _) (oB6E_eq (V.map letter) (y :: r) n bits V.length (r.length + 1) F).symm) ⟨⟨?_, rfl, .inr ⟨rfl, [(1000, 1000)], by kernel_rfl, by kernel_rfl, ⟨Wk.refl _, Wk.refl _, Wk.refl _, trivial⟩, ⟨_, rfl, rB_ow rfl rfl⟩, trivial⟩⟩⟩
      simp only [Cnd.holds, and_true]
      exact wk_litE (ltF (Nat.le_refl _))
end Go.Proofs.YtpijbbobejeemaaGreatDoor.Htp

/- Http: the document's writing in base 64: runs. -/
set_option linter.unusedVariables false
set_option linter.unusedSimpArgs false
set_option maxRecDepth 100000
namespace Go.Proofs.YtpijbbobejeemaaGreatDoor.Htp
open Go Go.RowKit Go.Proofs.YtpijbbobejeemaaGreatDoor.Eng Go.Proofs.YtpijbbobejeemaaGreatDoor.Kit
noncomputable section
def alphaB : ByteArray := ⟨⟨alpha⟩⟩
def aE (k m i : Nat) : List (Nat × AV) := [(0, sB 1000 k), (3, sv alphaB), (4, sB 1001 m), (5, iv (Int.ofNat i))]
def oE (L O : List UInt8) : LH := [(1000, rB1 L), (1001, rB O)]
def kE : List Nat := [1000, 1001, 1100, 1101, 1102, 1103, 1104, 1105, 1106, 1107, 1108]
def iE : List Nat := [0, 3, 4, 5]
def hE (i : Nat) (a b c : UInt8) (n1 n2 n12 n u v x y z w : Nat) (two three : Bool) : ClaimT := hintL [(fEnc, 4, 3, hv (.lit true)), (fEnc, 6, 3, hv (byv a)), (fEnc, 6, 4, hv (iv (Int.ofNat a.toNat))), (fEnc, 6, 5, hv (iv (Int.ofNat n1))),
  (fEnc, 7, 1, hv (iv (Int.ofNat (i + 1)))), (fEnc, 7, 4, hv (.lit two)), (fEnc, 8, 3, hv (iv (Int.ofNat (i + 1)))), (fEnc, 8, 5, hv (byv b)), (fEnc, 8, 6, hv (iv (Int.ofNat b.toNat))), (fEnc, 8, 7, hv (iv (Int.ofNat n2))), (fEnc, 8, 8, hv (iv (Int.ofNat n12))),
  (fEnc, 9, 1, hv (iv (Int.ofNat (i + 2)))), (fEnc, 9, 4, hv (.lit three)), (fEnc, 10, 3, hv (iv (Int.ofNat (i + 2)))), (fEnc, 10, 5, hv (byv c)), (fEnc, 10, 6, hv (iv (Int.ofNat c.toNat))), (fEnc, 10, 7, hv (iv (Int.ofNat n))),
  (fEnc, 11, 3, hv (iv (Int.ofNat x))), (fEnc, 11, 4, h0v (byv (letter x))), (fEnc, 11, 7, hv (iv (Int.ofNat u))), (fEnc, 11, 8, hv (iv (Int.ofNat y))), (fEnc, 11, 9, h0v (byv (letter y))),
  (fEnc, 12, 1, hv (iv (Int.ofNat (i + 1)))), (fEnc, 12, 4, hv (.lit two)), (fEnc, 13, 3, hv (iv (Int.ofNat v))), (fEnc, 13, 4, hv (iv (Int.ofNat z))), (fEnc, 13, 5, h0v (byv (letter z))),
  (fEnc, 15, 1, hv (iv (Int.ofNat (i + 2)))), (fEnc, 15, 4, hv (.lit three)), (fEnc, 16, 3, hv (iv (Int.ofNat w))), (fEnc, 16, 4, h0v (byv (letter w))), (fEnc, 5, 1, hv (iv (Int.ofNat (i + 3))))]
theorem oE3_eq (L O : List UInt8) (k m i : Nat) (a b c : UInt8) (n1 n2 n12 n u v x y z w : Nat) (F : HP) : wLoop [] (hE i a b c n1 n2 n12 n u v x y z w true true) [] default fEnc (loopN fEnc 4) (tms 0 92 (aE k m i)) (oE L O) kE iE F = VT.leaf (AX.normal, [AV.slice 1000 0 k 1 (Cp.lo k), AV.v (Value.string alphaB), AV.slice 1105 0 (m + 2 + 1 + 1) 1 (Cp.lo (m + 2 + 1 + 1)), AV.v (Value.int IntKind.i64 (Int.ofNat (i + 3)))], 92) [some (AO.cells (rowV encB L) 11), none, some (AO.cells [AV.v (Value.int IntKind.u8 ↑(letter x).toNat), AV.v (Value.int IntKind.u8 ↑(letter y).toNat)] 10), none, some (AO.cells [AV.v (Value.int IntKind.u8 ↑(letter z).toNat)] 10), none, some (AO.cells [AV.v (Value.int IntKind.u8 ↑(letter w).toNat)] 10), some (AO.cells (List.take ((m + 2 + 1) * 1) (List.drop 0 (List.take ((m + 2) * 1) (List.drop 0 (List.take (m * 1) (List.drop 0 (rowV encB O)) ++ [AV.v (Value.int IntKind.u8 ↑(letter x).toNat), AV.v (Value.int IntKind.u8 ↑(letter y).toNat)])) ++ [AV.v (Value.int IntKind.u8 ↑(letter z).toNat)])) ++ [AV.v (Value.int IntKind.u8 ↑(letter w).toNat)]) 10), none, none, none] 1106 (((Cnd.p (Wk (AV.v (Value.bool (decide (Int.ofNat i < ↑k)))) (AV.lit true))).a Cnd.t).a (((Cnd.p (i.blt k = true)).a Cnd.t).a (((Cnd.p ((0 + i * 1).blt (rowV encB L).length = true)).a ((Cnd.p ((rowV encB L).getD (0 + i * 1) (AV.undef) = AV.v (Value.int IntKind.u8 ((rowV encB L).getD (0 + i * 1) (AV.undef)).intOf))).a ((Cnd.p (Wk (AV.v (Value.int IntKind.u8 ((rowV encB L).getD (0 + i * 1) (AV.undef)).intOf)) (AV.v (Value.int IntKind.u8 ↑a.toNat)))).a Cnd.t))).a (((Cnd.p (Wk (AV.v (Value.int IntKind.i64 (IntKind.i64.wrap ↑a.toNat))) (AV.v (Value.int IntKind.i64 (Int.ofNat a.toNat))))).a Cnd.t).a (((Cnd.p (Wk (AV.v (Value.int IntKind.i64 (IntKind.i64.wrap (Int.ofNat a.toNat * Int.ofNat 65536)))) (AV.v (Value.int IntKind.i64 (Int.ofNat n1))))).a Cnd.t).a (((Cnd.p (Wk (AV.v (Value.int IntKind.i64 (IntKind.i64.wrap (Int.ofNat i + Int.ofNat 1)))) (AV.v (Value.int IntKind.i64 (Int.ofNat (i + 1)))))).a Cnd.t).a (((Cnd.p (Wk (AV.v (Value.bool (decide (Int.ofNat (i + 1) < ↑k)))) (AV.lit true))).a Cnd.t).a (((Cnd.p (Wk (AV.v (Value.int IntKind.i64 (IntKind.i64.wrap (Int.ofNat i + Int.ofNat 1)))) (AV.v (Value.int IntKind.i64 (Int.ofNat (i + 1)))))).a Cnd.t).a (((Cnd.p ((i + 1).blt k = true)).a Cnd.t).a (((Cnd.p ((0 + (i + 1) * 1).blt (rowV encB L).length = true)).a ((Cnd.p ((rowV encB L).getD (0 + (i + 1) * 1) (AV.undef) = AV.v (Value.int IntKind.u8 ((rowV encB L).getD (0 + (i + 1) * 1) (AV.undef)).intOf))).a ((Cnd.p (Wk (AV.v (Value.int IntKind.u8 ((rowV encB L).getD (0 + (i + 1) * 1) (AV.undef)).intOf)) (AV.v (Value.int IntKind.u8 ↑b.toNat)))).a Cnd.t))).a (((Cnd.p (Wk (AV.v (Value.int IntKind.i64 (IntKind.i64.wrap ↑b.toNat))) (AV.v (Value.int IntKind.i64 (Int.ofNat b.toNat))))).a Cnd.t).a (((Cnd.p (Wk (AV.v (Value.int IntKind.i64 (IntKind.i64.wrap (Int.ofNat b.toNat * Int.ofNat 256)))) (AV.v (Value.int IntKind.i64 (Int.ofNat n2))))).a Cnd.t).a (((Cnd.p (Wk (AV.v (Value.int IntKind.i64 (IntKind.i64.wrap (Int.ofNat n1 + Int.ofNat n2)))) (AV.v (Value.int IntKind.i64 (Int.ofNat n12))))).a Cnd.t).a (((Cnd.p (Wk (AV.v (Value.int IntKind.i64 (IntKind.i64.wrap (Int.ofNat i + Int.ofNat 2)))) (AV.v (Value.int IntKind.i64 (Int.ofNat (i + 2)))))).a Cnd.t).a (((Cnd.p (Wk (AV.v (Value.bool (decide (Int.ofNat (i + 2) < ↑k)))) (AV.lit true))).a Cnd.t).a (((Cnd.p (Wk (AV.v (Value.int IntKind.i64 (IntKind.i64.wrap (Int.ofNat i + Int.ofNat 2)))) (AV.v (Value.int IntKind.i64 (Int.ofNat (i + 2)))))).a Cnd.t).a (((Cnd.p ((i + 2).blt k = true)).a Cnd.t).a (((Cnd.p ((0 + (i + 2) * 1).blt (rowV encB L).length = true)).a ((Cnd.p ((rowV encB L).getD (0 + (i + 2) * 1) (AV.undef) = AV.v (Value.int IntKind.u8 ((rowV encB L).getD (0 + (i + 2) * 1) (AV.undef)).intOf))).a ((Cnd.p (Wk (AV.v (Value.int IntKind.u8 ((rowV encB L).getD (0 + (i + 2) * 1) (AV.undef)).intOf)) (AV.v (Value.int IntKind.u8 ↑c.toNat)))).a Cnd.t))).a (((Cnd.p (Wk (AV.v (Value.int IntKind.i64 (IntKind.i64.wrap ↑c.toNat))) (AV.v (Value.int IntKind.i64 (Int.ofNat c.toNat))))).a Cnd.t).a (((Cnd.p (Wk (AV.v (Value.int IntKind.i64 (IntKind.i64.wrap (Int.ofNat n12 + Int.ofNat c.toNat)))) (AV.v (Value.int IntKind.i64 (Int.ofNat n))))).a Cnd.t).a (((Cnd.p (Wk (AV.v (Value.int IntKind.i64 (IntKind.i64.wrap ((Int.ofNat n).tdiv (Int.ofNat 262144))))) (AV.v (Value.int IntKind.i64 (Int.ofNat x))))).a Cnd.t).a (((Cnd.p (x < 64)).a ((Cnd.p (Wk (AV.v (Value.int IntKind.u8 ↑(([65, 66, 67, 68, 69, 70, 71, 72, 73, 74, 75, 76, 77, 78, 79, 80, 81, 82, 83, 84, 85, 86, 87, 88, 89, 90, 97, 98, 99, 100, 101, 102, 103, 104, 105, 106, 107, 108, 109, 110, 111, 112, 113, 114, 115, 116, 117, 118, 119, 120, 121, 122, 48, 49, 50, 51, 52, 53, 54, 55, 56, 57, 43, 47] : List UInt8).getD x 0).toNat)) (AV.v (Value.int IntKind.u8 ↑(letter x).toNat)))).a Cnd.t)).a (((Cnd.p (Wk (AV.v (Value.int IntKind.i64 (IntKind.i64.wrap ((Int.ofNat n).tdiv (Int.ofNat 4096))))) (AV.v (Value.int IntKind.i64 (Int.ofNat u))))).a Cnd.t).a (((Cnd.p (Wk (AV.v (Value.int IntKind.i64 ((Int.ofNat u).tmod (Int.ofNat 64)))) (AV.v (Value.int IntKind.i64 (Int.ofNat y))))).a Cnd.t).a (((Cnd.p (y < 64)).a ((Cnd.p (Wk (AV.v (Value.int IntKind.u8 ↑(([65, 66, 67, 68, 69, 70, 71, 72, 73, 74, 75, 76, 77, 78, 79, 80, 81, 82, 83, 84, 85, 86, 87, 88, 89, 90, 97, 98, 99, 100, 101, 102, 103, 104, 105, 106, 107, 108, 109, 110, 111, 112, 113, 114, 115, 116, 117, 118, 119, 120, 121, 122, 48, 49, 50, 51, 52, 53, 54, 55, 56, 57, 43, 47] : List UInt8).getD y 0).toNat)) (AV.v (Value.int IntKind.u8 ↑(letter y).toNat)))).a Cnd.t)).a (((Cnd.p (true = true)).a ((Cnd.p (true = true)).a ((Cnd.p (true = true)).a ((Cnd.p (true = true)).a ((Cnd.p ((0 + m * 1).ble (rowV encB O).length = true)).a ((Cnd.p (((m + 2) * 1).ble 140737488355328 = true)).a ((Cnd.p ((m + 2).ble 9223372036854775807 = true)).a ((Cnd.p ((List.take (m * 1) (List.drop 0 (rowV encB O))).length.beq (m * 1) = true)).a Cnd.t)))))))).a (((Cnd.p (Wk (AV.v (Value.int IntKind.i64 (IntKind.i64.wrap (Int.ofNat i + Int.ofNat 1)))) (AV.v (Value.int IntKind.i64 (Int.ofNat (i + 1)))))).a Cnd.t).a (((Cnd.p (Wk (AV.v (Value.bool (decide (Int.ofNat (i + 1) < ↑k)))) (AV.lit true))).a Cnd.t).a (((Cnd.p (Wk (AV.v (Value.int IntKind.i64 (IntKind.i64.wrap ((Int.ofNat n).tdiv (Int.ofNat 64))))) (AV.v (Value.int IntKind.i64 (Int.ofNat v))))).a Cnd.t).a (((Cnd.p (Wk (AV.v (Value.int IntKind.i64 ((Int.ofNat v).tmod (Int.ofNat 64)))) (AV.v (Value.int IntKind.i64 (Int.ofNat z))))).a Cnd.t).a (((Cnd.p (z < 64)).a ((Cnd.p (Wk (AV.v (Value.int IntKind.u8 ↑(([65, 66, 67, 68, 69, 70, 71, 72, 73, 74, 75, 76, 77, 78, 79, 80, 81, 82, 83, 84, 85, 86, 87, 88, 89, 90, 97, 98, 99, 100, 101, 102, 103, 104, 105, 106, 107, 108, 109, 110, 111, 112, 113, 114, 115, 116, 117, 118, 119, 120, 121, 122, 48, 49, 50, 51, 52, 53, 54, 55, 56, 57, 43, 47] : List UInt8).getD z 0).toNat)) (AV.v (Value.int IntKind.u8 ↑(letter z).toNat)))).a Cnd.t)).a (((Cnd.p (true = true)).a ((Cnd.p (true = true)).a ((Cnd.p (true = true)).a ((Cnd.p (true = true)).a ((Cnd.p ((0 + (m + 2) * 1).ble (List.take (m * 1) (List.drop 0 (rowV encB O)) ++ [AV.v (Value.int IntKind.u8 ↑(letter x).toNat), AV.v (Value.int IntKind.u8 ↑(letter y).toNat)]).length = true)).a ((Cnd.p (((m + 2 + 1) * 1).ble 140737488355328 = true)).a ((Cnd.p ((m + 2 + 1).ble 9223372036854775807 = true)).a ((Cnd.p ((List.take ((m + 2) * 1) (List.drop 0 (List.take (m * 1) (List.drop 0 (rowV encB O)) ++ [AV.v (Value.int IntKind.u8 ↑(letter x).toNat), AV.v (Value.int IntKind.u8 ↑(letter y).toNat)]))).length.beq ((m + 2) * 1) = true)).a Cnd.t)))))))).a (((Cnd.p (Wk (AV.v (Value.int IntKind.i64 (IntKind.i64.wrap (Int.ofNat i + Int.ofNat 2)))) (AV.v (Value.int IntKind.i64 (Int.ofNat (i + 2)))))).a Cnd.t).a (((Cnd.p (Wk (AV.v (Value.bool (decide (Int.ofNat (i + 2) < ↑k)))) (AV.lit true))).a Cnd.t).a (((Cnd.p (Wk (AV.v (Value.int IntKind.i64 ((Int.ofNat n).tmod (Int.ofNat 64)))) (AV.v (Value.int IntKind.i64 (Int.ofNat w))))).a Cnd.t).a (((Cnd.p (w < 64)).a ((Cnd.p (Wk (AV.v (Value.int IntKind.u8 ↑(([65, 66, 67, 68, 69, 70, 71, 72, 73, 74, 75, 76, 77, 78, 79, 80, 81, 82, 83, 84, 85, 86, 87, 88, 89, 90, 97, 98, 99, 100, 101, 102, 103, 104, 105, 106, 107, 108, 109, 110, 111, 112, 113, 114, 115, 116, 117, 118, 119, 120, 121, 122, 48, 49, 50, 51, 52, 53, 54, 55, 56, 57, 43, 47] : List UInt8).getD w 0).toNat)) (AV.v (Value.int IntKind.u8 ↑(letter w).toNat)))).a Cnd.t)).a (((Cnd.p (true = true)).a ((Cnd.p (true = true)).a ((Cnd.p (true = true)).a ((Cnd.p (true = true)).a ((Cnd.p ((0 + (m + 2 + 1) * 1).ble (List.take ((m + 2) * 1) (List.drop 0 (List.take (m * 1) (List.drop 0 (rowV encB O)) ++ [AV.v (Value.int IntKind.u8 ↑(letter x).toNat), AV.v (Value.int IntKind.u8 ↑(letter y).toNat)])) ++ [AV.v (Value.int IntKind.u8 ↑(letter z).toNat)]).length = true)).a ((Cnd.p (((m + 2 + 1 + 1) * 1).ble 140737488355328 = true)).a ((Cnd.p ((m + 2 + 1 + 1).ble 9223372036854775807 = true)).a ((Cnd.p ((List.take ((m + 2 + 1) * 1) (List.drop 0 (List.take ((m + 2) * 1) (List.drop 0 (List.take (m * 1) (List.drop 0 (rowV encB O)) ++ [AV.v (Value.int IntKind.u8 ↑(letter x).toNat), AV.v (Value.int IntKind.u8 ↑(letter y).toNat)])) ++ [AV.v (Value.int IntKind.u8 ↑(letter z).toNat)]))).length.beq ((m + 2 + 1) * 1) = true)).a Cnd.t)))))))).a (((Cnd.p (Wk (AV.v (Value.int IntKind.i64 (IntKind.i64.wrap (Int.ofNat i + Int.ofNat 3)))) (AV.v (Value.int IntKind.i64 (Int.ofNat (i + 3)))))).a Cnd.t).a Cnd.t)))))))))))))))))))))))))))))))))))))) := by kernel_rfl
theorem oE2_eq (L O : List UInt8) (k m i : Nat) (a b c : UInt8) (n1 n2 n u v x y z w : Nat) (F : HP) : wLoop [] (hE i a b c n1 n2 n n u v x y z w true false) [] default fEnc (loopN fEnc 4) (tms 0 92 (aE k m i)) (oE L O) kE iE F = VT.leaf (AX.normal, [AV.slice 1000 0 k 1 (Cp.lo k), AV.v (Value.string alphaB), AV.slice 1105 0 (m + 2 + 1 + 1) 1 (Cp.lo (m + 2 + 1 + 1)), AV.v (Value.int IntKind.i64 (Int.ofNat (i + 3)))], 92) [some (AO.cells (rowV encB L) 11), none, some (AO.cells [AV.v (Value.int IntKind.u8 ↑(letter x).toNat), AV.v (Value.int IntKind.u8 ↑(letter y).toNat)] 10), none, some (AO.cells [AV.v (Value.int IntKind.u8 ↑(letter z).toNat)] 10), none, some (AO.cells [AV.v (Value.int IntKind.u8 (Int.ofNat 61))] 10), some (AO.cells (List.take ((m + 2 + 1) * 1) (List.drop 0 (List.take ((m + 2) * 1) (List.drop 0 (List.take (m * 1) (List.drop 0 (rowV encB O)) ++ [AV.v (Value.int IntKind.u8 ↑(letter x).toNat), AV.v (Value.int IntKind.u8 ↑(letter y).toNat)])) ++ [AV.v (Value.int IntKind.u8 ↑(letter z).toNat)])) ++ [AV.v (Value.int IntKind.u8 (Int.ofNat 61))]) 10), none, none, none] 1106 (((Cnd.p (Wk (AV.v (Value.bool (decide (Int.ofNat i < ↑k)))) (AV.lit true))).a Cnd.t).a (((Cnd.p (i.blt k = true)).a Cnd.t).a (((Cnd.p ((0 + i * 1).blt (rowV encB L).length = true)).a ((Cnd.p ((rowV encB L).getD (0 + i * 1) (AV.undef) = AV.v (Value.int IntKind.u8 ((rowV encB L).getD (0 + i * 1) (AV.undef)).intOf))).a ((Cnd.p (Wk (AV.v (Value.int IntKind.u8 ((rowV encB L).getD (0 + i * 1) (AV.undef)).intOf)) (AV.v (Value.int IntKind.u8 ↑a.toNat)))).a Cnd.t))).a (((Cnd.p (Wk (AV.v (Value.int IntKind.i64 (IntKind.i64.wrap ↑a.toNat))) (AV.v (Value.int IntKind.i64 (Int.ofNat a.toNat))))).a Cnd.t).a (((Cnd.p (Wk (AV.v (Value.int IntKind.i64 (IntKind.i64.wrap (Int.ofNat a.toNat * Int.ofNat 65536)))) (AV.v (Value.int IntKind.i64 (Int.ofNat n1))))).a Cnd.t).a (((Cnd.p (Wk (AV.v (Value.int IntKind.i64 (IntKind.i64.wrap (Int.ofNat i + Int.ofNat 1)))) (AV.v (Value.int IntKind.i64 (Int.ofNat (i + 1)))))).a Cnd.t).a (((Cnd.p (Wk (AV.v (Value.bool (decide (Int.ofNat (i + 1) < ↑k)))) (AV.lit true))).a Cnd.t).a (((Cnd.p (Wk (AV.v (Value.int IntKind.i64 (IntKind.i64.wrap (Int.ofNat i + Int.ofNat 1)))) (AV.v (Value.int IntKind.i64 (Int.ofNat (i + 1)))))).a Cnd.t).a (((Cnd.p ((i + 1).blt k = true)).a Cnd.t).a (((Cnd.p ((0 + (i + 1) * 1).blt (rowV encB L).length = true)).a ((Cnd.p ((rowV encB L).getD (0 + (i + 1) * 1) (AV.undef) = AV.v (Value.int IntKind.u8 ((rowV encB L).getD (0 + (i + 1) * 1) (AV.undef)).intOf))).a ((Cnd.p (Wk (AV.v (Value.int IntKind.u8 ((rowV encB L).getD (0 + (i + 1) * 1) (AV.undef)).intOf)) (AV.v (Value.int IntKind.u8 ↑b.toNat)))).a Cnd.t))).a (((Cnd.p (Wk (AV.v (Value.int IntKind.i64 (IntKind.i64.wrap ↑b.toNat))) (AV.v (Value.int IntKind.i64 (Int.ofNat b.toNat))))).a Cnd.t).a (((Cnd.p (Wk (AV.v (Value.int IntKind.i64 (IntKind.i64.wrap (Int.ofNat b.toNat * Int.ofNat 256)))) (AV.v (Value.int IntKind.i64 (Int.ofNat n2))))).a Cnd.t).a (((Cnd.p (Wk (AV.v (Value.int IntKind.i64 (IntKind.i64.wrap (Int.ofNat n1 + Int.ofNat n2)))) (AV.v (Value.int IntKind.i64 (Int.ofNat n))))).a Cnd.t).a (((Cnd.p (Wk (AV.v (Value.int IntKind.i64 (IntKind.i64.wrap (Int.ofNat i + Int.ofNat 2)))) (AV.v (Value.int IntKind.i64 (Int.ofNat (i + 2)))))).a Cnd.t).a (((Cnd.p (Wk (AV.v (Value.bool (decide (Int.ofNat (i + 2) < ↑k)))) (AV.lit false))).a Cnd.t).a (((Cnd.p (Wk (AV.v (Value.int IntKind.i64 (IntKind.i64.wrap ((Int.ofNat n).tdiv (Int.ofNat 262144))))) (AV.v (Value.int IntKind.i64 (Int.ofNat x))))).a Cnd.t).a (((Cnd.p (x < 64)).a ((Cnd.p (Wk (AV.v (Value.int IntKind.u8 ↑(([65, 66, 67, 68, 69, 70, 71, 72, 73, 74, 75, 76, 77, 78, 79, 80, 81, 82, 83, 84, 85, 86, 87, 88, 89, 90, 97, 98, 99, 100, 101, 102, 103, 104, 105, 106, 107, 108, 109, 110, 111, 112, 113, 114, 115, 116, 117, 118, 119, 120, 121, 122, 48, 49, 50, 51, 52, 53, 54, 55, 56, 57, 43, 47] : List UInt8).getD x 0).toNat)) (AV.v (Value.int IntKind.u8 ↑(letter x).toNat)))).a Cnd.t)).a (((Cnd.p (Wk (AV.v (Value.int IntKind.i64 (IntKind.i64.wrap ((Int.ofNat n).tdiv (Int.ofNat 4096))))) (AV.v (Value.int IntKind.i64 (Int.ofNat u))))).a Cnd.t).a (((Cnd.p (Wk (AV.v (Value.int IntKind.i64 ((Int.ofNat u).tmod (Int.ofNat 64)))) (AV.v (Value.int IntKind.i64 (Int.ofNat y))))).a Cnd.t).a (((Cnd.p (y < 64)).a ((Cnd.p (Wk (AV.v (Value.int IntKind.u8 ↑(([65, 66, 67, 68, 69, 70, 71, 72, 73, 74, 75, 76, 77, 78, 79, 80, 81, 82, 83, 84, 85, 86, 87, 88, 89, 90, 97, 98, 99, 100, 101, 102, 103, 104, 105, 106, 107, 108, 109, 110, 111, 112, 113, 114, 115, 116, 117, 118, 119, 120, 121, 122, 48, 49, 50, 51, 52, 53, 54, 55, 56, 57, 43, 47] : List UInt8).getD y 0).toNat)) (AV.v (Value.int IntKind.u8 ↑(letter y).toNat)))).a Cnd.t)).a (((Cnd.p (true = true)).a ((Cnd.p (true = true)).a ((Cnd.p (true = true)).a ((Cnd.p (true = true)).a ((Cnd.p ((0 + m * 1).ble (rowV encB O).length = true)).a ((Cnd.p (((m + 2) * 1).ble 140737488355328 = true)).a ((Cnd.p ((m + 2).ble 9223372036854775807 = true)).a ((Cnd.p ((List.take (m * 1) (List.drop 0 (rowV encB O))).length.beq (m * 1) = true)).a Cnd.t)))))))).a (((Cnd.p (Wk (AV.v (Value.int IntKind.i64 (IntKind.i64.wrap (Int.ofNat i + Int.ofNat 1)))) (AV.v (Value.int IntKind.i64 (Int.ofNat (i + 1)))))).a Cnd.t).a (((Cnd.p (Wk (AV.v (Value.bool (decide (Int.ofNat (i + 1) < ↑k)))) (AV.lit true))).a Cnd.t).a (((Cnd.p (Wk (AV.v (Value.int IntKind.i64 (IntKind.i64.wrap ((Int.ofNat n).tdiv (Int.ofNat 64))))) (AV.v (Value.int IntKind.i64 (Int.ofNat v))))).a Cnd.t).a (((Cnd.p (Wk (AV.v (Value.int IntKind.i64 ((Int.ofNat v).tmod (Int.ofNat 64)))) (AV.v (Value.int IntKind.i64 (Int.ofNat z))))).a Cnd.t).a (((Cnd.p (z < 64)).a ((Cnd.p (Wk (AV.v (Value.int IntKind.u8 ↑(([65, 66, 67, 68, 69, 70, 71, 72, 73, 74, 75, 76, 77, 78, 79, 80, 81, 82, 83, 84, 85, 86, 87, 88, 89, 90, 97, 98, 99, 100, 101, 102, 103, 104, 105, 106, 107, 108, 109, 110, 111, 112, 113, 114, 115, 116, 117, 118, 119, 120, 121, 122, 48, 49, 50, 51, 52, 53, 54, 55, 56, 57, 43, 47] : List UInt8).getD z 0).toNat)) (AV.v (Value.int IntKind.u8 ↑(letter z).toNat)))).a Cnd.t)).a (((Cnd.p (true = true)).a ((Cnd.p (true = true)).a ((Cnd.p (true = true)).a ((Cnd.p (true = true)).a ((Cnd.p ((0 + (m + 2) * 1).ble (List.take (m * 1) (List.drop 0 (rowV encB O)) ++ [AV.v (Value.int IntKind.u8 ↑(letter x).toNat), AV.v (Value.int IntKind.u8 ↑(letter y).toNat)]).length = true)).a ((Cnd.p (((m + 2 + 1) * 1).ble 140737488355328 = true)).a ((Cnd.p ((m + 2 + 1).ble 9223372036854775807 = true)).a ((Cnd.p ((List.take ((m + 2) * 1) (List.drop 0 (List.take (m * 1) (List.drop 0 (rowV encB O)) ++ [AV.v (Value.int IntKind.u8 ↑(letter x).toNat), AV.v (Value.int IntKind.u8 ↑(letter y).toNat)]))).length.beq ((m + 2) * 1) = true)).a Cnd.t)))))))).a (((Cnd.p (Wk (AV.v (Value.int IntKind.i64 (IntKind.i64.wrap (Int.ofNat i + Int.ofNat 2)))) (AV.v (Value.int IntKind.i64 (Int.ofNat (i + 2)))))).a Cnd.t).a (((Cnd.p (Wk (AV.v (Value.bool (decide (Int.ofNat (i + 2) < ↑k)))) (AV.lit false))).a Cnd.t).a (((Cnd.p (true = true)).a ((Cnd.p (true = true)).a ((Cnd.p (true = true)).a ((Cnd.p (true = true)).a ((Cnd.p ((0 + (m + 2 + 1) * 1).ble (List.take ((m + 2) * 1) (List.drop 0 (List.take (m * 1) (List.drop 0 (rowV encB O)) ++ [AV.v (Value.int IntKind.u8 ↑(letter x).toNat), AV.v (Value.int IntKind.u8 ↑(letter y).toNat)])) ++ [AV.v (Value.int IntKind.u8 ↑(letter z).toNat)]).length = true)).a ((Cnd.p (((m + 2 + 1 + 1) * 1).ble 140737488355328 = true)).a ((Cnd.p ((m + 2 + 1 + 1).ble 9223372036854775807 = true)).a ((Cnd.p ((List.take ((m + 2 + 1) * 1) (List.drop 0 (List.take ((m + 2) * 1) (List.drop 0 (List.take (m * 1) (List.drop 0 (rowV encB O)) ++ [AV.v (Value.int IntKind.u8 ↑(letter x).toNat), AV.v (Value.int IntKind.u8 ↑(letter y).toNat)])) ++ [AV.v (Value.int IntKind.u8 ↑(letter z).toNat)]))).length.beq ((m + 2 + 1) * 1) = true)).a Cnd.t)))))))).a (((Cnd.p (Wk (AV.v (Value.int IntKind.i64 (IntKind.i64.wrap (Int.ofNat i + Int.ofNat 3)))) (AV.v (Value.int IntKind.i64 (Int.ofNat (i + 3)))))).a Cnd.t).a Cnd.t))))))))))))))))))))))))))))))) := by kernel_rfl
theorem oE1_eq (L O : List UInt8) (k m i : Nat) (a b c : UInt8) (n u v x y z w : Nat) (F : HP) : wLoop [] (hE i a b c n n n n u v x y z w false false) [] default fEnc (loopN fEnc 4) (tms 0 92 (aE k m i)) (oE L O) kE iE F = VT.leaf (AX.normal, [AV.slice 1000 0 k 1 (Cp.lo k), AV.v (Value.string alphaB), AV.slice 1105 0 (m + 2 + 1 + 1) 1 (Cp.lo (m + 2 + 1 + 1)), AV.v (Value.int IntKind.i64 (Int.ofNat (i + 3)))], 92) [some (AO.cells (rowV encB L) 11), none, some (AO.cells [AV.v (Value.int IntKind.u8 ↑(letter x).toNat), AV.v (Value.int IntKind.u8 ↑(letter y).toNat)] 10), none, some (AO.cells [AV.v (Value.int IntKind.u8 (Int.ofNat 61))] 10), none, some (AO.cells [AV.v (Value.int IntKind.u8 (Int.ofNat 61))] 10), some (AO.cells (List.take ((m + 2 + 1) * 1) (List.drop 0 (List.take ((m + 2) * 1) (List.drop 0 (List.take (m * 1) (List.drop 0 (rowV encB O)) ++ [AV.v (Value.int IntKind.u8 ↑(letter x).toNat), AV.v (Value.int IntKind.u8 ↑(letter y).toNat)])) ++ [AV.v (Value.int IntKind.u8 (Int.ofNat 61))])) ++ [AV.v (Value.int IntKind.u8 (Int.ofNat 61))]) 10), none, none, none] 1106 (((Cnd.p (Wk (AV.v (Value.bool (decide (Int.ofNat i < ↑k)))) (AV.lit true))).a Cnd.t).a (((Cnd.p (i.blt k = true)).a Cnd.t).a (((Cnd.p ((0 + i * 1).blt (rowV encB L).length = true)).a ((Cnd.p ((rowV encB L).getD (0 + i * 1) (AV.undef) = AV.v (Value.int IntKind.u8 ((rowV encB L).getD (0 + i * 1) (AV.undef)).intOf))).a ((Cnd.p (Wk (AV.v (Value.int IntKind.u8 ((rowV encB L).getD (0 + i * 1) (AV.undef)).intOf)) (AV.v (Value.int IntKind.u8 ↑a.toNat)))).a Cnd.t))).a (((Cnd.p (Wk (AV.v (Value.int IntKind.i64 (IntKind.i64.wrap ↑a.toNat))) (AV.v (Value.int IntKind.i64 (Int.ofNat a.toNat))))).a Cnd.t).a (((Cnd.p (Wk (AV.v (Value.int IntKind.i64 (IntKind.i64.wrap (Int.ofNat a.toNat * Int.ofNat 65536)))) (AV.v (Value.int IntKind.i64 (Int.ofNat n))))).a Cnd.t).a (((Cnd.p (Wk (AV.v (Value.int IntKind.i64 (IntKind.i64.wrap (Int.ofNat i + Int.ofNat 1)))) (AV.v (Value.int IntKind.i64 (Int.ofNat (i + 1)))))).a Cnd.t).a (((Cnd.p (Wk (AV.v (Value.bool (decide (Int.ofNat (i + 1) < ↑k)))) (AV.lit false))).a Cnd.t).a (((Cnd.p (Wk (AV.v (Value.int IntKind.i64 (IntKind.i64.wrap (Int.ofNat i + Int.ofNat 2)))) (AV.v (Value.int IntKind.i64 (Int.ofNat (i + 2)))))).a Cnd.t).a (((Cnd.p (Wk (AV.v (Value.bool (decide (Int.ofNat (i + 2) < ↑k)))) (AV.lit false))).a Cnd.t).a (((Cnd.p (Wk (AV.v (Value.int IntKind.i64 (IntKind.i64.wrap ((Int.ofNat n).tdiv (Int.ofNat 262144))))) (AV.v (Value.int IntKind.i64 (Int.ofNat x))))).a Cnd.t).a (((Cnd.p (x < 64)).a ((Cnd.p (Wk (AV.v (Value.int IntKind.u8 ↑(([65, 66, 67, 68, 69, 70, 71, 72, 73, 74, 75, 76, 77, 78, 79, 80, 81, 82, 83, 84, 85, 86, 87, 88, 89, 90, 97, 98, 99, 100, 101, 102, 103, 104, 105, 106, 107, 108, 109, 110, 111, 112, 113, 114, 115, 116, 117, 118, 119, 120, 121, 122, 48, 49, 50, 51, 52, 53, 54, 55, 56, 57, 43, 47] : List UInt8).getD x 0).toNat)) (AV.v (Value.int IntKind.u8 ↑(letter x).toNat)))).a Cnd.t)).a (((Cnd.p (Wk (AV.v (Value.int IntKind.i64 (IntKind.i64.wrap ((Int.ofNat n).tdiv (Int.ofNat 4096))))) (AV.v (Value.int IntKind.i64 (Int.ofNat u))))).a Cnd.t).a (((Cnd.p (Wk (AV.v (Value.int IntKind.i64 ((Int.ofNat u).tmod (Int.ofNat 64)))) (AV.v (Value.int IntKind.i64 (Int.ofNat y))))).a Cnd.t).a (((Cnd.p (y < 64)).a ((Cnd.p (Wk (AV.v (Value.int IntKind.u8 ↑(([65, 66, 67, 68, 69, 70, 71, 72, 73, 74, 75, 76, 77, 78, 79, 80, 81, 82, 83, 84, 85, 86, 87, 88, 89, 90, 97, 98, 99, 100, 101, 102, 103, 104, 105, 106, 107, 108, 109, 110, 111, 112, 113, 114, 115, 116, 117, 118, 119, 120, 121, 122, 48, 49, 50, 51, 52, 53, 54, 55, 56, 57, 43, 47] : List UInt8).getD y 0).toNat)) (AV.v (Value.int IntKind.u8 ↑(letter y).toNat)))).a Cnd.t)).a (((Cnd.p (true = true)).a ((Cnd.p (true = true)).a ((Cnd.p (true = true)).a ((Cnd.p (true = true)).a ((Cnd.p ((0 + m * 1).ble (rowV encB O).length = true)).a ((Cnd.p (((m + 2) * 1).ble 140737488355328 = true)).a ((Cnd.p ((m + 2).ble 9223372036854775807 = true)).a ((Cnd.p ((List.take (m * 1) (List.drop 0 (rowV encB O))).length.beq (m * 1) = true)).a Cnd.t)))))))).a (((Cnd.p (Wk (AV.v (Value.int IntKind.i64 (IntKind.i64.wrap (Int.ofNat i + Int.ofNat 1)))) (AV.v (Value.int IntKind.i64 (Int.ofNat (i + 1)))))).a Cnd.t).a (((Cnd.p (Wk (AV.v (Value.bool (decide (Int.ofNat (i + 1) < ↑k)))) (AV.lit false))).a Cnd.t).a (((Cnd.p (true = true)).a ((Cnd.p (true = true)).a ((Cnd.p (true = true)).a ((Cnd.p (true = true)).a ((Cnd.p ((0 + (m + 2) * 1).ble (List.take (m * 1) (List.drop 0 (rowV encB O)) ++ [AV.v (Value.int IntKind.u8 ↑(letter x).toNat), AV.v (Value.int IntKind.u8 ↑(letter y).toNat)]).length = true)).a ((Cnd.p (((m + 2 + 1) * 1).ble 140737488355328 = true)).a ((Cnd.p ((m + 2 + 1).ble 9223372036854775807 = true)).a ((Cnd.p ((List.take ((m + 2) * 1) (List.drop 0 (List.take (m * 1) (List.drop 0 (rowV encB O)) ++ [AV.v (Value.int IntKind.u8 ↑(letter x).toNat), AV.v (Value.int IntKind.u8 ↑(letter y).toNat)]))).length.beq ((m + 2) * 1) = true)).a Cnd.t)))))))).a (((Cnd.p (Wk (AV.v (Value.int IntKind.i64 (IntKind.i64.wrap (Int.ofNat i + Int.ofNat 2)))) (AV.v (Value.int IntKind.i64 (Int.ofNat (i + 2)))))).a Cnd.t).a (((Cnd.p (Wk (AV.v (Value.bool (decide (Int.ofNat (i + 2) < ↑k)))) (AV.lit false))).a Cnd.t).a (((Cnd.p (true = true)).a ((Cnd.p (true = true)).a ((Cnd.p (true = true)).a ((Cnd.p (true = true)).a ((Cnd.p ((0 + (m + 2 + 1) * 1).ble (List.take ((m + 2) * 1) (List.drop 0 (List.take (m * 1) (List.drop 0 (rowV encB O)) ++ [AV.v (Value.int IntKind.u8 ↑(letter x).toNat), AV.v (Value.int IntKind.u8 ↑(letter y).toNat)])) ++ [AV.v (Value.int IntKind.u8 (Int.ofNat 61))]).length = true)).a ((Cnd.p (((m + 2 + 1 + 1) * 1).ble 140737488355328 = true)).a ((Cnd.p ((m + 2 + 1 + 1).ble 9223372036854775807 = true)).a ((Cnd.p ((List.take ((m + 2 + 1) * 1) (List.drop 0 (List.take ((m + 2) * 1) (List.drop 0 (List.take (m * 1) (List.drop 0 (rowV encB O)) ++ [AV.v (Value.int IntKind.u8 ↑(letter x).toNat), AV.v (Value.int IntKind.u8 ↑(letter y).toNat)])) ++ [AV.v (Value.int IntKind.u8 (Int.ofNat 61))]))).length.beq ((m + 2 + 1) * 1) = true)).a Cnd.t)))))))).a (((Cnd.p (Wk (AV.v (Value.int IntKind.i64 (IntKind.i64.wrap (Int.ofNat i + Int.ofNat 3)))) (AV.v (Value.int IntKind.i64 (Int.ofNat (i + 3)))))).a Cnd.t).a Cnd.t)))))))))))))))))))))) := by kernel_rfl
theorem oEE_eq (L O : List UInt8) (k m i : Nat) (F : HP) : wLoop [] (hintL [(fEnc, 4, 3, hv (.lit false))]) [] default fEnc (loopN fEnc 4) (tms 0 92 (aE k m i)) (oE L O) kE iE F = VT.leaf (AX.exit 0, [AV.slice 1000 0 k 1 (Cp.lo k), AV.v (Value.string alphaB), AV.slice 1001 0 m 1 (Cp.lo m), AV.v (Value.int IntKind.i64 (Int.ofNat i))], 92) [some (AO.cells (rowV encB L) 11), some (AO.cells (rowV encB O) 10), none, none, none, none, none, none, none, none, none] 1100 (((Cnd.p (Wk (AV.v (Value.bool (decide (Int.ofNat i < ↑k)))) (AV.lit false))).a Cnd.t).a Cnd.t) := by kernel_rfl
def gE : List AV → AP (Nat × Nat) := fun tmps => match getL tmps 0, getL tmps 4 with
  | .slice a _ _ _ _, .slice b _ _ _ _ => .ret (a, b)
  | _, _ => .fail "encode"
def nmE (a b : Nat) : Nat → Nat := fun k => match Nat.beq k 1000 with
  | true => a
  | false => match Nat.beq k 1001 with
    | true => b
    | false => k
def lE (L O : List UInt8) (k m : Nat) : List AV → AP (AX × List AV) := mkL gE (fun _ => True) (fun q => nmE q.1 q.2) (fun _ => tms 0 92 (aE k 0 0)) (fun _ => oE L []) (fun _ => .leaf (.exit 0) (tms 0 92 [(4, sB 1001 m)]) [(1001, rB O)])
theorem oE_eq (L O : List UInt8) (k m : Nat) (s : ByteArray) (F : HP) : wRun [] (hintL [(fEnc, 18, 1, ht s)]) [(fEnc, 4, loopN fEnc 4, lE L O k m)] default fEnc [sB 1000 k] [(1000, rB1 L)] [1000, 1100, 1101] F = VT.leaf (AV.v (Value.string s)) [none, none, some (AO.cells (AV.rens (sgN (nmE 1000 1100) [1001] 1101) (rowV encB O)) 10)] 1102 ((Cnd.p ((fEnc, 4, loopN fEnc 4, lE L O k m).snd.snd.fst = (fEnc, 4, loopN fEnc 4, lE L O k m).snd.snd.fst)).a ((Cnd.p True).a ((Cnd.p (VW [AV.slice 1000 0 k 1 (Cp.lo k), AV.undef, AV.v (Value.string (ByteArray.mk (Array.mk []))), AV.v (Value.string (ByteArray.mk (Array.mk [65, 66, 67, 68, 69, 70, 71, 72, 73, 74, 75, 76, 77, 78, 79, 80, 81, 82, 83, 84, 85, 86, 87, 88, 89, 90, 97, 98, 99, 100, 101, 102, 103, 104, 105, 106, 107, 108, 109, 110, 111, 112, 113, 114, 115, 116, 117, 118, 119, 120, 121, 122, 48, 49, 50, 51, 52, 53, 54, 55, 56, 57, 43, 47]))), AV.slice 1100 0 0 1 (Cp.ex 0), AV.v (Value.int IntKind.i64 (Int.ofNat 0)), AV.undef, AV.slice 1100 0 0 1 (Cp.ex 0), AV.undef, AV.undef, AV.undef, AV.undef, AV.undef, AV.undef, AV.undef, AV.undef, AV.undef, AV.undef, AV.undef, AV.undef, AV.undef, AV.undef, AV.undef, AV.undef, AV.undef, AV.undef, AV.undef, AV.undef, AV.undef, AV.undef, AV.undef, AV.undef, AV.undef, AV.undef, AV.undef, AV.undef, AV.undef, AV.undef, AV.undef, AV.undef, AV.undef, AV.undef, AV.undef, AV.undef, AV.undef, AV.undef, AV.undef, AV.undef, AV.undef, AV.undef, AV.undef, AV.undef, AV.undef, AV.undef, AV.undef, AV.undef, AV.undef, AV.undef, AV.undef, AV.undef, AV.undef, AV.undef, AV.undef, AV.undef, AV.undef, AV.undef, AV.undef, AV.undef, AV.undef, AV.undef, AV.undef, AV.undef, AV.undef, AV.undef, AV.undef, AV.undef, AV.undef, AV.undef, AV.undef, AV.undef, AV.undef, AV.undef, AV.undef, AV.undef, AV.undef, AV.undef, AV.undef, AV.undef, AV.undef, AV.undef, AV.undef, AV.undef] [AV.slice 1000 0 k 1 (Cp.lo k), AV.any, AV.any, AV.v (Value.string alphaB), AV.slice 1100 0 0 1 (Cp.lo 0), AV.v (Value.int IntKind.i64 (Int.ofNat 0)), AV.any, AV.any, AV.any, AV.any, AV.any, AV.any, AV.any, AV.any, AV.any, AV.any, AV.any, AV.any, AV.any, AV.any, AV.any, AV.any, AV.any, AV.any, AV.any, AV.any, AV.any, AV.any, AV.any, AV.any, AV.any, AV.any, AV.any, AV.any, AV.any, AV.any, AV.any, AV.any, AV.any, AV.any, AV.any, AV.any, AV.any, AV.any, AV.any, AV.any, AV.any, AV.any, AV.any, AV.any, AV.any, AV.any, AV.any, AV.any, AV.any, AV.any, AV.any, AV.any, AV.any, AV.any, AV.any, AV.any, AV.any, AV.any, AV.any, AV.any, AV.any, AV.any, AV.any, AV.any, AV.any, AV.any, AV.any, AV.any, AV.any, AV.any, AV.any, AV.any, AV.any, AV.any, AV.any, AV.any, AV.any, AV.any, AV.any, AV.any, AV.any, AV.any, AV.any, AV.any, AV.any, AV.any])).a ((Cnd.p (OW (AO.cells (rowV encB L) 11) (AO.cells (AV.rens (nmE 1000 1100) (rowV encB L)) 11))).a ((Cnd.p (OW (AO.cells (rep [AV.v (Value.int IntKind.u8 (Int.ofNat 0))] 0) 10) (AO.cells [] 10))).a (((Cnd.p (0 + m ≤ (AV.rens (sgN (nmE 1000 1100) [1001] 1101) (rowV encB O)).length ∧ List.take m (List.drop 0 (AV.rens (sgN (nmE 1000 1100) [1001] 1101) (rowV encB O))) = vmap (List.map (fun b => Value.int IntKind.u8 ↑b.toNat) s.data.toList))).a Cnd.t).a Cnd.t)))))) := by kernel_rfl
end
end Go.Proofs.YtpijbbobejeemaaGreatDoor.Htp

/- Http: the document's writing in base 64. -/
set_option linter.unusedVariables false
set_option linter.unusedSimpArgs false
set_option maxRecDepth 100000
namespace Go.Proofs.YtpijbbobejeemaaGreatDoor.Htp
open Go Go.RowKit Go.Proofs.YtpijbbobejeemaaGreatDoor.Eng Go.Proofs.YtpijbbobejeemaaGreatDoor.Kit
theorem w_tdiv {n k : Nat} (h : n < 9223372036854775808) : IntKind.i64.wrap ((Int.ofNat n).tdiv (Int.ofNat k)) = Int.ofNat (n / k) := by
  have : (Int.ofNat n).tdiv (Int.ofNat k) = Int.ofNat (n / k) := by simp only [Int.ofNat_eq_natCast]; exact (Int.ofNat_tdiv n k).symm
  rw [this]
  exact w_in (Nat.lt_of_le_of_lt (Nat.div_le_self _ _) h)
theorem w_tmod (n k : Nat) : (Int.ofNat n).tmod (Int.ofNat k) = Int.ofNat (n % k) := by
  simp only [Int.ofNat_eq_natCast]; exact (Int.ofNat_tmod n k).symm
theorem encL_nil : encL [] = [] := rfl
theorem encL_1 (a : UInt8) : encL [a] = [letter (n3 a 0 0 / 262144), letter (n3 a 0 0 / 4096 % 64)] ++ [61] ++ [61] := rfl
theorem encL_2 (a b : UInt8) : encL [a, b] = [letter (n3 a b 0 / 262144), letter (n3 a b 0 / 4096 % 64)] ++ [letter (n3 a b 0 / 64 % 64)] ++ [61] := rfl
theorem encL_3 (a b c : UInt8) (l : List UInt8) : encL (a :: b :: c :: l) = ([letter (n3 a b c / 262144), letter (n3 a b c / 4096 % 64)] ++ [letter (n3 a b c / 64 % 64)] ++ [letter (n3 a b c % 64)]) ++ encL l := rfl
theorem encL_len (b : List UInt8) : (encL b).length ≤ b.length * 2 + 2 := by
  have h1 := nums_len b
  have h2 := pad_le b
  simp only [encL, coreL, List.length_append, List.length_map, List.length_replicate]
  omega
theorem drop_get {α : Type} {l r : List α} {a d : α} {i : Nat} (h : l.drop i = a :: r) : i < l.length ∧ l.getD i d = a ∧ l.drop (i + 1) = r := by
  have hi : i < l.length := by
    rcases Nat.lt_or_ge i l.length with h1 | h1
    · exact h1
    · rw [List.drop_eq_nil_of_le h1] at h; cases h
  rw [List.drop_eq_getElem_cons hi] at h
  obtain ⟨h1, h2⟩ := List.cons.inj h
  exact ⟨hi, by rw [List.getD_eq_getElem?_getD, List.getElem?_eq_getElem hi]; exact h1, h2⟩
theorem u8_zero : (0 : UInt8).toNat = 0 := rfl
theorem enc_loop (b : List UInt8) (hb : b.length ≤ 2000000) :
    LTri Tryz.prog default (loopN fEnc 4) (tms 0 92 (aE b.length 0 0)) (oE b []) (.exit 0) (tms 0 92 [(4, sB 1001 (encL b).length)]) [(1001, rB (encL b))] := by
  refine ltri_run (W := default) (g := fEnc) (b := loopN fEnc 4) (σ := {q : List UInt8 × Nat // q.1 ++ encL (b.drop q.2) = encL b}) 92 (fun q => aE b.length q.1.1.length q.1.2) (fun q => oE b q.1.1) (.exit 0) _ [(1001, rB (encL b))] (fun q => b.length - q.1.2) kE iE (by intro h; cases h) (fun i => rfl) rfl ?_ ⟨([], 0), rfl⟩
  rintro ⟨⟨O, i⟩, hI⟩
  have hI : O ++ encL (b.drop i) = encL b := hI
  simp only
  have hlen := encL_len b
  have hO : O.length ≤ (encL b).length := by rw [← hI, List.length_append]; omega
  match hr : b.drop i with
  | [] =>
    rw [hr, encL_nil, List.append_nil] at hI
    have hi : b.length ≤ i := by
      have := congrArg List.length hr
      rw [List.length_drop, List.length_nil] at this; omega
    refine ⟨[], hintL [(fEnc, 4, 3, hv (.lit false))], [], fun _ _ => noC, fun _ _ => noL, fun F => ?_⟩
    refine cast (congrArg (VAll _) (oEE_eq b O b.length O.length i F).symm) ⟨⟨?_, rfl, .inr ⟨rfl, [(1001, 1001)], by kernel_rfl, by kernel_rfl, ⟨by rw [hI]; exact Wk.refl _, trivial⟩, ⟨_, rfl, rB_ow (by rw [hI]) rfl⟩, trivial⟩⟩⟩
    simp only [Cnd.holds, and_true]
    exact wk_litE (ltFG hi)
  | a :: r =>
    obtain ⟨i1, ga, hr1⟩ := drop_get (d := 0) hr
    have e1 := ltTC i1
    have g1 := rB_get b i i1
    have g2 := rB_lt b i i1
    rw [ga] at g1
    have ha := a.toNat_lt
    have c1 : IntKind.i64.wrap (a.toNat : Int) = Int.ofNat a.toNat := w_cast (by omega)
    have w1 := w_add (a := i) (b := 1) (by omega)
    have w2 := w_add (a := i) (b := 2) (by omega)
    have w3 := w_add (a := i) (b := 3) (by omega)
    match r, hr, hr1 with
    | [], hr, hr1 =>
      have i2 : b.length ≤ i + 1 := by
        have := congrArg List.length hr1
        rw [List.length_drop, List.length_nil] at this; omega
      have e2 := ltFG i2
      have e3 := ltFG (show b.length ≤ i + 2 by omega)
      have hn : n3 a 0 0 = a.toNat * 65536 := by unfold n3; rw [u8_zero]; omega
      rw [hr, encL_1] at hI
      have m1 : IntKind.i64.wrap (Int.ofNat a.toNat * Int.ofNat 65536) = Int.ofNat (n3 a 0 0) := by rw [hn]; exact w_mul (by omega)
      have hlt := n3_lt a 0 0
      generalize n3 a 0 0 = n at *
      have m2 := w_tdiv (n := n) (k := 262144) (by omega)
      have m3 := w_tdiv (n := n) (k := 4096) (by omega)
      have m4 := w_tmod (n / 4096) 64
      have x1 : n / 262144 < 64 := by omega
      have x2 : n / 4096 % 64 < 64 := Nat.mod_lt _ (by decide)
      generalize n / 262144 = x at *
      generalize n / 4096 % 64 = y at *
      generalize n / 4096 = u at *
      have l1 : (O ++ [letter x, letter y]).length = O.length + 2 := by simp
      have l2 : (O ++ [letter x, letter y] ++ [61]).length = O.length + 2 + 1 := by simp
      have l3 : (O ++ [letter x, letter y] ++ [61] ++ [61]).length = O.length + 2 + 1 + 1 := by simp
      have a1 : List.take (O.length * 1) (List.drop 0 (rowV encB O)) ++ [byv (letter x), byv (letter y)] = rowV encB (O ++ [letter x, letter y]) := rB_adds rfl [letter x, letter y]
      have a2 : List.take ((O.length + 2) * 1) (List.drop 0 (rowV encB (O ++ [letter x, letter y]))) ++ [AV.v (.int .u8 (Int.ofNat 61))] = rowV encB (O ++ [letter x, letter y] ++ [61]) := rB_adds l1 [61]
      have a3 : List.take ((O.length + 2 + 1) * 1) (List.drop 0 (rowV encB (O ++ [letter x, letter y] ++ [61]))) ++ [AV.v (.int .u8 (Int.ofNat 61))] = rowV encB (O ++ [letter x, letter y] ++ [61] ++ [61]) := rB_adds l2 [61]
      unfold byv at a1
      have hO' : O.length + 4 ≤ 4000002 := by
        have := congrArg List.length hI
        simp only [List.length_append, List.length_cons, List.length_nil] at this; omega
      have k1 := rB_in (p := O.length) (P := O) rfl
      have k2 := rB_full (p := O.length) (P := O) rfl
      have k3 := rB_in l1; have k4 := rB_full l1; have k5 := rB_in l2; have k6 := rB_full l2
      have b1 : ((O.length + 2) * 1).ble 140737488355328 = true := ble_of (by omega)
      have b2 : (O.length + 2).ble 9223372036854775807 = true := ble_of (by omega)
      have b3 : ((O.length + 2 + 1) * 1).ble 140737488355328 = true := ble_of (by omega)
      have b4 : (O.length + 2 + 1).ble 9223372036854775807 = true := ble_of (by omega)
      have b5 : ((O.length + 2 + 1 + 1) * 1).ble 140737488355328 = true := ble_of (by omega)
      have b6 : (O.length + 2 + 1 + 1).ble 9223372036854775807 = true := ble_of (by omega)
      refine ⟨[], hE i a 0 0 n n n n u 0 x y 0 0 false false, [], fun _ _ => noC, fun _ _ => noL, fun F => ?_⟩
      refine cast (congrArg (VAll _) (oE1_eq b O b.length O.length i a 0 0 n u 0 x y 0 0 F).symm) ⟨⟨?_, rfl, .inl ⟨rfl, ⟨(O ++ [letter x, letter y] ++ [61] ++ [61], i + 3), ?_⟩, ?_, [(1000, 1000), (1001, 1105)], by kernel_rfl, by kernel_rfl, ⟨Wk.refl _, Wk.refl _, by rw [l3]; exact Wk.refl _, Wk.refl _, trivial⟩, ⟨_, rfl, rB1_ow rfl rfl⟩, ⟨_, rfl, rB_ow ?_ rfl⟩, trivial⟩⟩⟩
      · simp only [Cnd.holds, e1, e2, e3, g1, g2, i1, byv, AV.intOf, a1, a2, a3, k1, k2, k3, k4, k5, k6, b1, b2, b3, b4, b5, b6, x1, x2, Nat.blt_eq, true_and, and_true]
        and_intros
        all_goals first
          | (with_reducible exact wk_int c1)
          | (with_reducible exact wk_int m1)
          | (with_reducible exact wk_int m2)
          | (with_reducible exact wk_int m3)
          | (with_reducible exact wk_int m4)
          | (with_reducible exact wk_int w1)
          | (with_reducible exact wk_int w2)
          | (with_reducible exact wk_int w3)
          | (with_reducible exact trivial)
          | (with_reducible exact rfl)
          | (with_reducible exact Wk.refl _)
          | (with_reducible exact VW.refl _)
          | (with_reducible exact OW.refl _)
          | (with_reducible exact wk_lit _)
          | (with_reducible assumption)
          | exact rfl
          | exact Wk.refl _
          | exact VW.refl _
          | exact OW.refl _
          | ((repeat (first | exact VW.nil | refine VW.cons (Wk.refl _) ?_ | refine VW.cons (Wk.any _) ?_ | refine VW.cons (wk_cap (Nat.le_refl _)) ?_)); done)
      · show (O ++ [letter x, letter y] ++ [61] ++ [61]) ++ encL (b.drop (i + 3)) = encL b
        have : b.drop (i + 3) = [] := List.drop_eq_nil_of_le (by omega)
        rw [this, encL_nil, List.append_nil, ← hI]
        simp
      · show b.length - (i + 3) < b.length - i
        omega
      · rw [a1, a2, a3]
    | [c], hr, hr1 =>
      obtain ⟨i2, gc, hr2⟩ := drop_get (d := 0) hr1
      have i3 : b.length ≤ i + 2 := by
        have := congrArg List.length hr2
        rw [List.length_drop, List.length_nil] at this; omega
      have e2 := ltTC i2
      have e3 := ltFG i3
      have g3 := rB_get b (i + 1) i2
      have g4 := rB_lt b (i + 1) i2
      rw [gc] at g3
      have hc := c.toNat_lt
      have c2 : IntKind.i64.wrap (c.toNat : Int) = Int.ofNat c.toNat := w_cast (by omega)
      have hn : n3 a c 0 = a.toNat * 65536 + c.toNat * 256 := by unfold n3; rw [u8_zero]; omega
      rw [hr, encL_2] at hI
      have m1 : IntKind.i64.wrap (Int.ofNat a.toNat * Int.ofNat 65536) = Int.ofNat (a.toNat * 65536) := w_mul (by omega)
      have m5 : IntKind.i64.wrap (Int.ofNat c.toNat * Int.ofNat 256) = Int.ofNat (c.toNat * 256) := w_mul (by omega)
      have hlt := n3_lt a c 0
      have hn1 : a.toNat * 65536 < 16777216 := by omega
      have hn2 : c.toNat * 256 < 65536 := by omega
      generalize n3 a c 0 = n at *
      generalize a.toNat * 65536 = n1 at *
      generalize c.toNat * 256 = n2 at *
      have m6 : IntKind.i64.wrap (Int.ofNat n1 + Int.ofNat n2) = Int.ofNat n := by rw [hn]; exact w_add (by omega)
      have m2 := w_tdiv (n := n) (k := 262144) (by omega)
      have m3 := w_tdiv (n := n) (k := 4096) (by omega)
      have m4 := w_tmod (n / 4096) 64
      have m7 := w_tdiv (n := n) (k := 64) (by omega)
      have m8 := w_tmod (n / 64) 64
      have x1 : n / 262144 < 64 := by omega
      have x2 : n / 4096 % 64 < 64 := Nat.mod_lt _ (by decide)
      have x3 : n / 64 % 64 < 64 := Nat.mod_lt _ (by decide)
      generalize n / 262144 = x at *
      generalize n / 4096 % 64 = y at *
      generalize n / 4096 = u at *
      generalize n / 64 % 64 = z at *
      generalize n / 64 = v at *
      have l1 : (O ++ [letter x, letter y]).length = O.length + 2 := by simp
      have l2 : (O ++ [letter x, letter y] ++ [letter z]).length = O.length + 2 + 1 := by simp
      have l3 : (O ++ [letter x, letter y] ++ [letter z] ++ [61]).length = O.length + 2 + 1 + 1 := by simp
      have a1 : List.take (O.length * 1) (List.drop 0 (rowV encB O)) ++ [byv (letter x), byv (letter y)] = rowV encB (O ++ [letter x, letter y]) := rB_adds rfl [letter x, letter y]
      have a2 : List.take ((O.length + 2) * 1) (List.drop 0 (rowV encB (O ++ [letter x, letter y]))) ++ [byv (letter z)] = rowV encB (O ++ [letter x, letter y] ++ [letter z]) := rB_adds l1 [letter z]
      have a3 : List.take ((O.length + 2 + 1) * 1) (List.drop 0 (rowV encB (O ++ [letter x, letter y] ++ [letter z]))) ++ [AV.v (.int .u8 (Int.ofNat 61))] = rowV encB (O ++ [letter x, letter y] ++ [letter z] ++ [61]) := rB_adds l2 [61]
      unfold byv at a1 a2
      have hO' : O.length + 4 ≤ 4000002 := by
        have := congrArg List.length hI
        simp only [List.length_append, List.length_cons, List.length_nil] at this; omega
      have k1 := rB_in (p := O.length) (P := O) rfl
      have k2 := rB_full (p := O.length) (P := O) rfl
      have k3 := rB_in l1; have k4 := rB_full l1; have k5 := rB_in l2; have k6 := rB_full l2
      have b1 : ((O.length + 2) * 1).ble 140737488355328 = true := ble_of (by omega)
      have b2 : (O.length + 2).ble 9223372036854775807 = true := ble_of (by omega)
      have b3 : ((O.length + 2 + 1) * 1).ble 140737488355328 = true := ble_of (by omega)
      have b4 : (O.length + 2 + 1).ble 9223372036854775807 = true := ble_of (by omega)
      have b5 : ((O.length + 2 + 1 + 1) * 1).ble 140737488355328 = true := ble_of (by omega)
      have b6 : (O.length + 2 + 1 + 1).ble 9223372036854775807 = true := ble_of (by omega)
      refine ⟨[], hE i a c 0 n1 n2 n n u v x y z 0 true false, [], fun _ _ => noC, fun _ _ => noL, fun F => ?_⟩
      refine cast (congrArg (VAll _) (oE2_eq b O b.length O.length i a c 0 n1 n2 n u v x y z 0 F).symm) ⟨⟨?_, rfl, .inl ⟨rfl, ⟨(O ++ [letter x, letter y] ++ [letter z] ++ [61], i + 3), ?_⟩, ?_, [(1000, 1000), (1001, 1105)], by kernel_rfl, by kernel_rfl, ⟨Wk.refl _, Wk.refl _, by rw [l3]; exact Wk.refl _, Wk.refl _, trivial⟩, ⟨_, rfl, rB1_ow rfl rfl⟩, ⟨_, rfl, rB_ow ?_ rfl⟩, trivial⟩⟩⟩
      · simp only [Cnd.holds, e1, e2, e3, g1, g2, g3, g4, i1, i2, byv, AV.intOf, a1, a2, a3, k1, k2, k3, k4, k5, k6, b1, b2, b3, b4, b5, b6, x1, x2, x3, Nat.blt_eq, true_and, and_true]
        and_intros
        all_goals first
          | (with_reducible exact wk_int c1)
          | (with_reducible exact wk_int c2)
          | (with_reducible exact wk_int m1)
          | (with_reducible exact wk_int m2)
          | (with_reducible exact wk_int m3)
          | (with_reducible exact wk_int m4)
          | (with_reducible exact wk_int m5)
          | (with_reducible exact wk_int m6)
          | (with_reducible exact wk_int m7)
          | (with_reducible exact wk_int m8)
          | (with_reducible exact wk_int w1)
          | (with_reducible exact wk_int w2)
          | (with_reducible exact wk_int w3)
          | (with_reducible exact trivial)
          | (with_reducible exact rfl)
          | (with_reducible exact Wk.refl _)
          | (with_reducible exact VW.refl _)
          | (with_reducible exact OW.refl _)
          | (with_reducible exact wk_lit _)
          | (with_reducible assumption)
          | exact rfl
          | exact Wk.refl _
          | exact VW.refl _
          | exact OW.refl _
          | ((repeat (first | exact VW.nil | refine VW.cons (Wk.refl _) ?_ | refine VW.cons (Wk.any _) ?_ | refine VW.cons (wk_cap (Nat.le_refl _)) ?_)); done)
      · show (O ++ [letter x, letter y] ++ [letter z] ++ [61]) ++ encL (b.drop (i + 3)) = encL b
        have : b.drop (i + 3) = [] := List.drop_eq_nil_of_le (by omega)
        rw [this, encL_nil, List.append_nil, ← hI]
        simp
      · show b.length - (i + 3) < b.length - i
        omega
      · rw [a1, a2, a3]
    | c :: d :: r, hr, hr1 =>
      obtain ⟨i2, gc, hr2⟩ := drop_get (d := 0) hr1
      obtain ⟨i3, gd, hr3⟩ := drop_get (d := 0) hr2
      have e2 := ltTC i2
      have e3 := ltTC (show i + 2 < b.length from i3)
      have g3 := rB_get b (i + 1) i2
      have g4 := rB_lt b (i + 1) i2
      have g5 := rB_get b (i + 2) i3
      have g6 := rB_lt b (i + 2) i3
      rw [gc] at g3
      rw [gd] at g5
      have hc := c.toNat_lt
      have hdd := d.toNat_lt
      have c2 : IntKind.i64.wrap (c.toNat : Int) = Int.ofNat c.toNat := w_cast (by omega)
      have c3 : IntKind.i64.wrap (d.toNat : Int) = Int.ofNat d.toNat := w_cast (by omega)
      have hn : n3 a c d = a.toNat * 65536 + c.toNat * 256 + d.toNat := rfl
      rw [hr, encL_3] at hI
      have m1 : IntKind.i64.wrap (Int.ofNat a.toNat * Int.ofNat 65536) = Int.ofNat (a.toNat * 65536) := w_mul (by omega)
      have m5 : IntKind.i64.wrap (Int.ofNat c.toNat * Int.ofNat 256) = Int.ofNat (c.toNat * 256) := w_mul (by omega)
      have hlt := n3_lt a c d
      have hn1 : a.toNat * 65536 < 16777216 := by omega
      have hn2 : c.toNat * 256 < 65536 := by omega
      generalize n3 a c d = n at *
      generalize a.toNat * 65536 = n1 at *
      generalize c.toNat * 256 = n2 at *
      have m6 : IntKind.i64.wrap (Int.ofNat n1 + Int.ofNat n2) = Int.ofNat (n1 + n2) := w_add (by omega)
      have m9 : IntKind.i64.wrap (Int.ofNat (n1 + n2) + Int.ofNat d.toNat) = Int.ofNat n := by rw [hn]; exact w_add (by omega)
      generalize n1 + n2 = n12 at *
      have m2 := w_tdiv (n := n) (k := 262144) (by omega)
      have m3 := w_tdiv (n := n) (k := 4096) (by omega)
      have m4 := w_tmod (n / 4096) 64
      have m7 := w_tdiv (n := n) (k := 64) (by omega)
      have m8 := w_tmod (n / 64) 64
      have m10 := w_tmod n 64
      have x1 : n / 262144 < 64 := by omega
      have x2 : n / 4096 % 64 < 64 := Nat.mod_lt _ (by decide)
      have x3 : n / 64 % 64 < 64 := Nat.mod_lt _ (by decide)
      have x4 : n % 64 < 64 := Nat.mod_lt _ (by decide)
      generalize n / 262144 = x at *
      generalize n / 4096 % 64 = y at *
      generalize n / 4096 = u at *
      generalize n / 64 % 64 = z at *
      generalize n / 64 = v at *
      generalize n % 64 = t at *
      have l1 : (O ++ [letter x, letter y]).length = O.length + 2 := by simp
      have l2 : (O ++ [letter x, letter y] ++ [letter z]).length = O.length + 2 + 1 := by simp
      have l3 : (O ++ [letter x, letter y] ++ [letter z] ++ [letter t]).length = O.length + 2 + 1 + 1 := by simp
      have a1 : List.take (O.length * 1) (List.drop 0 (rowV encB O)) ++ [byv (letter x), byv (letter y)] = rowV encB (O ++ [letter x, letter y]) := rB_adds rfl [letter x, letter y]
      have a2 : List.take ((O.length + 2) * 1) (List.drop 0 (rowV encB (O ++ [letter x, letter y]))) ++ [byv (letter z)] = rowV encB (O ++ [letter x, letter y] ++ [letter z]) := rB_adds l1 [letter z]
      have a3 : List.take ((O.length + 2 + 1) * 1) (List.drop 0 (rowV encB (O ++ [letter x, letter y] ++ [letter z]))) ++ [byv (letter t)] = rowV encB (O ++ [letter x, letter y] ++ [letter z] ++ [letter t]) := rB_adds l2 [letter t]
      unfold byv at a1 a2 a3
      have hO' : O.length + 4 ≤ 4000002 := by
        have := congrArg List.length hI
        simp only [List.length_append, List.length_cons, List.length_nil] at this; omega
      have k1 := rB_in (p := O.length) (P := O) rfl
      have k2 := rB_full (p := O.length) (P := O) rfl
      have k3 := rB_in l1; have k4 := rB_full l1; have k5 := rB_in l2; have k6 := rB_full l2
      have b1 : ((O.length + 2) * 1).ble 140737488355328 = true := ble_of (by omega)
      have b2 : (O.length + 2).ble 9223372036854775807 = true := ble_of (by omega)
      have b3 : ((O.length + 2 + 1) * 1).ble 140737488355328 = true := ble_of (by omega)
      have b4 : (O.length + 2 + 1).ble 9223372036854775807 = true := ble_of (by omega)
      have b5 : ((O.length + 2 + 1 + 1) * 1).ble 140737488355328 = true := ble_of (by omega)
      have b6 : (O.length + 2 + 1 + 1).ble 9223372036854775807 = true := ble_of (by omega)
      refine ⟨[], hE i a c d n1 n2 n12 n u v x y z t true true, [], fun _ _ => noC, fun _ _ => noL, fun F => ?_⟩
      refine cast (congrArg (VAll _) (oE3_eq b O b.length O.length i a c d n1 n2 n12 n u v x y z t F).symm) ⟨⟨?_, rfl, .inl ⟨rfl, ⟨(O ++ [letter x, letter y] ++ [letter z] ++ [letter t], i + 3), ?_⟩, ?_, [(1000, 1000), (1001, 1105)], by kernel_rfl, by kernel_rfl, ⟨Wk.refl _, Wk.refl _, by rw [l3]; exact Wk.refl _, Wk.refl _, trivial⟩, ⟨_, rfl, rB1_ow rfl rfl⟩, ⟨_, rfl, rB_ow ?_ rfl⟩, trivial⟩⟩⟩
      · simp only [Cnd.holds, e1, e2, e3, g1, g2, g3, g4, g5, g6, i1, i2, i3, byv, AV.intOf, a1, a2, a3, k1, k2, k3, k4, k5, k6, b1, b2, b3, b4, b5, b6, x1, x2, x3, x4, Nat.blt_eq, true_and, and_true]
        and_intros
        all_goals first
          | (with_reducible exact wk_int c1)
          | (with_reducible exact wk_int c2)
          | (with_reducible exact wk_int c3)
          | (with_reducible exact wk_int m1)
          | (with_reducible exact wk_int m2)
          | (with_reducible exact wk_int m3)
          | (with_reducible exact wk_int m4)
          | (with_reducible exact wk_int m5)
          | (with_reducible exact wk_int m6)
          | (with_reducible exact wk_int m7)
          | (with_reducible exact wk_int m8)
          | (with_reducible exact wk_int m9)
          | (with_reducible exact wk_int m10)
          | (with_reducible exact wk_int w1)
          | (with_reducible exact wk_int w2)
          | (with_reducible exact wk_int w3)
          | (with_reducible exact trivial)
          | (with_reducible exact rfl)
          | (with_reducible exact Wk.refl _)
          | (with_reducible exact VW.refl _)
          | (with_reducible exact OW.refl _)
          | (with_reducible exact wk_lit _)
          | (with_reducible assumption)
          | exact rfl
          | exact Wk.refl _
          | exact VW.refl _
          | exact OW.refl _
          | ((repeat (first | exact VW.nil | refine VW.cons (Wk.refl _) ?_ | refine VW.cons (Wk.any _) ?_ | refine VW.cons (wk_cap (Nat.le_refl _)) ?_)); done)
      · show (O ++ [letter x, letter y] ++ [letter z] ++ [letter t]) ++ encL (b.drop (i + 3)) = encL b
        rw [hr3, ← hI]
        simp
      · show b.length - (i + 3) < b.length - i
        omega
      · rw [a1, a2, a3]
theorem gE_ro : ∀ args, RO (gE args) := by
  intro args
  unfold gE
  split
  · exact RO.ret _
  · exact RO.fail _
theorem lE_ok (b : List UInt8) (hb : b.length ≤ 2000000) (F : HP) : L1OK Tryz.prog F (loopN fEnc 4) (lE b (encL b) b.length (encL b).length) :=
  mkL_ok (W := default) oldDef gE_ro (fun _ _ => enc_loop b hb) fun _ => by
    simp only [RT.pick]
    exact closedT rfl rfl (all_cons rfl (all_cons trivial (all_cons rfl (all_cons trivial all_nil)))) (all_cons (rB1_cl _ _) (all_cons (rB_cl _ _) all_nil)) (all_cons rfl all_nil) (all_cons (rB_cl _ _) all_nil)
def encB64 (b : List UInt8) : ByteArray := tB (encL b)
theorem Encode_tri (b : List UInt8) (hb : b.length ≤ 2000000) : Tri Tryz.prog default fEnc [sB 1000 b.length] [(1000, rB1 b)] (sv (encB64 b)) [] := by
  refine tri_run (con := []) (hints := hintL [(fEnc, 18, 1, ht (encB64 b))]) (lc := [(fEnc, 4, loopN fEnc 4, lE b (encL b) b.length (encL b).length)]) [1000, 1100, 1101] rfl (fun F _ => noC) (fun F _ => one_l (lE_ok b hb F)) fun F => ?_
  refine cast (congrArg (VAll _) (oE_eq b (encL b) b.length (encL b).length (encB64 b) F).symm) ⟨⟨?_, (fit_mk (vs' := [sv (encB64 b)]) (H' := []) [] rfl rfl (VW.refl _) trivial).fits rfl⟩⟩
  have q1 : 0 + (encL b).length ≤ (rowV encB (encL b)).length := by rw [rB_len]; omega
  have q2 : List.take (encL b).length (List.drop 0 (rowV encB (encL b))) = txtV (encB64 b) := by
    rw [List.drop_zero, List.take_of_length_le (by rw [rB_len]; exact Nat.le_refl _)]
    exact row_txt (tB_data _).symm
  simp only [Cnd.holds, rens_rowV, q1, q2, Nat.blt_eq, true_and, and_true]
  and_intros
  all_goals first
    | (with_reducible exact trivial)
    | (with_reducible exact rfl)
    | (with_reducible exact Wk.refl _)
    | (with_reducible exact VW.refl _)
    | (with_reducible exact OW.refl _)
    | (with_reducible exact wk_lit _)
    | (with_reducible assumption)
    | exact rfl
    | exact Wk.refl _
    | exact VW.refl _
    | exact OW.refl _
    | ((repeat (first | exact VW.nil | refine VW.cons (Wk.refl _) ?_ | refine VW.cons (Wk.any _) ?_ | refine VW.cons (wk_cap (Nat.le_refl _)) ?_)); done)
end Go.Proofs.YtpijbbobejeemaaGreatDoor.Htp

/- Http: base 64: the function. -/
set_option linter.unusedVariables false
set_option linter.unusedSimpArgs false
set_option maxRecDepth 100000
namespace Go.Proofs.YtpijbbobejeemaaGreatDoor.Htp
open Go Go.RowKit Go.Proofs.YtpijbbobejeemaaGreatDoor.Eng Go.Proofs.YtpijbbobejeemaaGreatDoor.Kit
theorem gB6_ro : ∀ args, RO (gB6 args) := by
  intro args
  unfold gB6
  split
  · exact RO.ret _
  · exact RO.fail _
theorem letters_map (b : List UInt8) : (tB (coreL b)).data.toList = (nums b).map letter := by rw [tB_data]; rfl
theorem stQ_end (b : List UInt8) : ∃ n k, stQ (nums b) (nums b).length = (n, k, b) ∧ k < 6 ∧ n % 2 ^ k = 0 := by
  obtain ⟨n, k, h1, h2, h3⟩ := dec_enc b 0 []
  exact ⟨n, k, by unfold stQ; rw [List.take_length, h1, List.nil_append], h2, h3⟩
theorem lB6_ok (b : List UInt8) (hb : b.length ≤ 2000000) (h0 : b ≠ []) (n k : Nat) (hq : stQ (nums b) (nums b).length = (n, k, b)) (F : HP) : L1OK Tryz.prog F (loopN fB64 8) (lB6 (tB (coreL b)).data.toList b n k (nums b).length b.length) :=
  mkL_ok (W := default) oldDef gB6_ro (fun _ _ => by
    have h := b6_loop (nums b) (nums_lt b) (by have := nums_len b; omega) (by rw [hq]; exact h0)
    rw [hq] at h
    simp only [RT.pick]
    rw [letters_map]
    exact h) fun _ => by
    simp only [RT.pick]
    exact closedT rfl rfl (all_cons trivial (all_cons trivial (all_cons trivial (all_cons rfl (all_cons trivial (all_cons trivial all_nil)))))) (all_cons (rB1_cl _ _) all_nil) (all_cons rfl (all_cons trivial (all_cons trivial all_nil))) (all_cons (rB_cl _ _) all_nil)
theorem trim_enc (b : List UInt8) : trimR (encB64 b) (ByteArray.mk (Array.mk [61])) = tB (coreL b) := by
  unfold trimR encB64
  congr 1
  rw [tB_data]
  show Lib.trimRightS (encL b) [61] = coreL b
  rw [Lib.trimRightS_take (encL b) [61] (coreL b).length (by simp only [encL, List.length_append]; omega)]
  · simp [encL]
  · intro j x hj hx
    simp only [encL] at hx
    rw [List.getElem?_append_right hj] at hx
    have := List.eq_of_mem_replicate (List.mem_of_getElem? hx)
    subst this; rfl
  · intro x hk hx
    simp only [encL] at hx
    rw [List.getElem?_append_left (by omega)] at hx
    have := coreL_ne b x (List.mem_of_getElem? hx)
    simp [this]
theorem B64_tri (b : List UInt8) (hb : b.length ≤ 2000000) (h0 : b ≠ []) : Tri Tryz.prog default fB64 [sv (encB64 b)] [] (.tuple [sB 1000 b.length, bv true]) [(1000, rB b)] := by
  obtain ⟨n, k, hq, hk, hn⟩ := stQ_end b
  have hinv := stQ_inv (nums b) (nums b).length (Nat.le_refl _)
  rw [hq] at hinv
  have hn1 : n < 65536 := hinv.1
  have hlen := encL_len b
  have hsz : (encB64 b).size = (encL b).length := tB_size _
  have hcz : (tB (coreL b)).size = (nums b).length := by rw [tB_size]; simp [coreL]
  have hec : (encL b).length = (nums b).length + pad b := by simp [encL, coreL]
  have hpad := pad_le b
  have hmod := encL_mod b
  refine tri_run (con := [(fTrimR, cTrimR)]) (hints := hB (tB (coreL b)) k) (lc := [(fB64, 8, loopN fB64 8, lB6 (tB (coreL b)).data.toList b n k (nums b).length b.length)]) [1100, 1101] rfl (fun F hF => one_c (cTrimR_ok hF)) (fun F _ => one_l (lB6_ok b hb h0 n k hq F)) fun F => ?_
  refine cast (congrArg (VAll _) (oB_eq (encB64 b) (tB (coreL b)) b n k (nums b).length b.length F).symm) ⟨⟨?_, (fit_mk (vs' := [.tuple [sB 1000 b.length, bv true]]) (H' := [(1000, rB b)]) [(1000, 1101)] rfl rfl (VW.refl _) ⟨⟨_, rfl, rB_ow (by rw [rens_rowV]) rfl⟩, trivial⟩).fits rfl⟩⟩
  have e1 : ((((encB64 b).size : Nat) : Int).tmod (Int.ofNat 4) != Int.ofNat 0) = false := by
    have := w_tmod (encB64 b).size 4
    simp only [Int.ofNat_eq_natCast] at this ⊢
    rw [this, hsz, hmod]; rfl
  have e2 : decide (IntKind.i64.wrap ((((encB64 b).size : Nat) : Int) - (((tB (coreL b)).size : Nat) : Int)) > Int.ofNat 2) = false := by
    have := w_sub (a := (encB64 b).size) (b := (tB (coreL b)).size) (by omega) (by omega)
    simp only [Int.ofNat_eq_natCast] at this ⊢
    rw [this]
    exact decide_eq_false (by omega)
  have p1 : (encB64 b).size < 4294967281 ∧ 1 < 4294967281 ∧ asciiB (ByteArray.mk (Array.mk [61])) := by
    refine ⟨by omega, by decide, fun j x hx => ?_⟩
    have := List.mem_of_getElem? hx
    rcases List.mem_singleton.1 this with rfl
    decide
  have p2 : 2 ^ k ≤ 2 ^ 6 := Nat.pow_le_pow_right (by decide) (by omega)
  have m1 : IntKind.i64.wrap (Int.ofNat 1 * Int.ofNat 2 ^ min k 64) = Int.ofNat (2 ^ k) := by
    have h1 : min k 64 = k := by omega
    have h2 : (Int.ofNat 2 : Int) ^ k = Int.ofNat (2 ^ k) := by simp
    rw [h1, h2, w_mul (by omega), Nat.one_mul]
  have m2 := w_sub (a := 2 ^ k) (b := 1) (Nat.two_pow_pos k) (by omega)
  have m3 := w_and (m := n) (k := k) (by omega) (by omega)
  rw [hn] at m3
  have e3 : decide (Int.ofNat k < Int.ofNat 6) = true := ltTN hk
  have hV := letters_map b
  rw [hcz] at e2
  simp only [Cnd.holds, e3, hcz, tB_data, rens_rowV, Nat.blt_eq, true_and, and_true]
  and_intros
  all_goals first
    | (with_reducible exact wk_int m1)
    | (with_reducible exact wk_int m2)
    | (with_reducible exact wk_int m3)
    | exact wk_litE e1
    | exact wk_litE e2
    | exact p1.1
    | exact p1.2.1
    | exact p1.2.2
    | exact wk_sv (trim_enc b)
    | exact ow_cells (rowB_map _).symm
    | (with_reducible exact trivial)
    | (with_reducible exact rfl)
    | (with_reducible exact Wk.refl _)
    | (with_reducible exact VW.refl _)
    | (with_reducible exact OW.refl _)
    | (with_reducible exact wk_lit _)
    | (with_reducible assumption)
    | exact rfl
    | exact Wk.refl _
    | exact VW.refl _
    | exact OW.refl _
    | ((repeat (first | exact VW.nil | refine VW.cons (Wk.refl _) ?_ | refine VW.cons (Wk.any _) ?_ | refine VW.cons (wk_cap (Nat.le_refl _)) ?_)); done)
end Go.Proofs.YtpijbbobejeemaaGreatDoor.Htp

/- Http: the document's examples, a closed run. -/
set_option linter.unusedVariables false
set_option linter.unusedSimpArgs false
namespace Go.Proofs.YtpijbbobejeemaaGreatDoor.Htp
open Go Go.RowKit Go.Proofs.YtpijbbobejeemaaGreatDoor.Eng Go.Proofs.YtpijbbobejeemaaGreatDoor.Kit
abbrev fSpeaks : Nat := 8
abbrev fBIndex : Nat := 49
abbrev fSIndex : Nat := 82
abbrev fLower : Nat := 58
section
variable {W : World} {F : HP}
def ixF (sub : List UInt8) : List UInt8 → Nat → Int
  | [], k => match sub with
    | [] => Int.ofNat k
    | _ :: _ => -1
  | b :: l, k => match sub.isPrefixOf (b :: l) with
    | true => Int.ofNat k
    | false => ixF sub l (k + 1)
theorem ixF_eq (sub : List UInt8) : ∀ (l : List UInt8) (k : Nat), ixF sub l k = if Lib.index l sub = -1 then -1 else Lib.index l sub + k
  | [], k => by
    cases sub with
    | nil => simp [ixF, Lib.index]
    | cons a r => simp [ixF, Lib.index]
  | b :: l, k => by
    rw [ixF, Lib.index]
    cases h : sub.isPrefixOf (b :: l) with
    | true => simp
    | false =>
      have hg := Lib.index_ge l sub
      rw [ixF_eq sub l (k + 1)]
      simp only [Bool.false_eq_true, if_false]
      by_cases h1 : Lib.index l sub = -1
      · simp [h1]
      · rw [if_neg h1]
        have h2 : (Lib.index l sub == -1) = false := by simpa using h1
        rw [h2]
        simp only [Bool.false_eq_true, if_false]
        rw [if_neg (by omega)]
        omega
theorem ixF_index (sub l : List UInt8) : ixF sub l 0 = Lib.index l sub := by
  rw [ixF_eq]
  split
  · rename_i h; rw [h]
  · simp
def cIdxS : List AV → Option (AP AV) := vC g2s (fun p => p.1.size < 4294967281) (fun p => iv (ixF p.2.data.toList p.1.data.toList 0))
theorem cIdxS_ok (hW : LW W) (hF : OldOK W F) : C1OK Tryz.prog F fSIndex cIdxS :=
  vC_ok hF (fun p => [.string p.1, .string p.2]) (fun p => .int .i64 (ixF p.2.data.toList p.1.data.toList 0)) g2s_spec (fun p N => vr_v N _) fun p hp w hw => by
    obtain ⟨m, hm⟩ := hW.maxLen
    exact (Tryz.strings_Index p.1 p.2 m w hp (hw.cell hm)).mono fun e w' ⟨h1, h2⟩ => ⟨by rw [h1, ixF_index], by rw [h2]; exact Below.refl _ _⟩
noncomputable def kIdxS : List AV → Option (AP AV) := kC g2s (fun p => Nat.blt p.1.size 4294967281) (fun p => iv (ixF p.2.data.toList p.1.data.toList 0))
theorem cIdxL_ok (hW : LW W) (hF : OldOK W F) : C1OK Tryz.prog F 103 cIdxS :=
  vC_ok hF (fun p => [.string p.1, .string p.2]) (fun p => .int .i64 (ixF p.2.data.toList p.1.data.toList 0)) g2s_spec (fun p N => vr_v N _) fun p hp w hw => by
    obtain ⟨m, hm⟩ := hW.maxLen
    exact (Tryz.stringslite_Index p.1 p.2 m w hp (hw.cell hm)).mono fun e w' ⟨h1, h2⟩ => ⟨by rw [h1, ixF_index], by rw [h2]; exact Below.refl _ _⟩
theorem kIdxL_ok (hW : LW W) (hF : OldOK W F) : C1OK Tryz.prog F 103 kIdxS := kC_ok (cIdxL_ok hW hF) fun p hp => by rw [Nat.blt_eq] at hp; exact hp
theorem kIdxS_ok (hW : LW W) (hF : OldOK W F) : C1OK Tryz.prog F fSIndex kIdxS := kC_ok (cIdxS_ok hW hF) fun p hp => by rw [Nat.blt_eq] at hp; exact hp
def lowB (s : ByteArray) : ByteArray := tB (Lib.toLowerA s.data.toList)
def cLow : List AV → Option (AP AV) := vC g1s (fun s => s.size ≤ 140737488355328 ∧ asciiB s) (fun s => sv (lowB s))
theorem cLow_ok (hF : OldOK W F) : C1OK Tryz.prog F fLower cLow :=
  vC_ok hF (fun s => [.string s]) (fun s => .string (lowB s)) g1s_spec (fun p N => vr_v N _) fun s hp w hw => Tryz.strings_ToLower_ascii s w hp.1 hp.2
def asciiK (s : ByteArray) : Bool := s.data.toList.all fun b => Nat.blt b.toNat 128
theorem asciiK_spec {s : ByteArray} (h : asciiK s = true) : asciiB s := fun j b hb => by
  have := List.all_eq_true.1 h b (List.mem_of_getElem? hb)
  rwa [Nat.blt_eq] at this
noncomputable def kLow : List AV → Option (AP AV) := kC g1s (fun s => Nat.ble s.size 140737488355328 && asciiK s) (fun s => sv (lowB s))
theorem kLow_ok (hF : OldOK W F) : C1OK Tryz.prog F fLower kLow := kC_ok (cLow_ok hF) fun s hp => by
  rw [Bool.and_eq_true, Nat.ble_eq] at hp
  exact ⟨hp.1, asciiK_spec hp.2⟩
noncomputable def kJoin : List AV → Option (AP AV) := rowStrK (fun xs t => Nat.ble xs.length 140737488355328 && Nat.ble (Lib.join (xs.map (·.data.toList)) t.data.toList).length 140737488355328) (fun xs t => sv (joinB xs t))
theorem kJoin_ok (hF : OldOK W F) : C1OK Tryz.prog F fJoin kJoin := rowStrK_ok (cJoin_ok hF) fun xs t hp => by
  rw [Bool.and_eq_true, Nat.ble_eq, Nat.ble_eq] at hp
  exact hp
noncomputable def kBIndex : List AV → Option (AP AV) := row2K (fun xs ys => Nat.blt xs.length 4294967281 && Nat.ble ys.length 9223372036854775807) (fun xs ys => iv (ixF (Lib.bytesOf ys) (Lib.bytesOf xs) 0))
theorem kBIndex_ok (hW : LW W) (hF : OldOK W F) : C1OK Tryz.prog F fBIndex kBIndex :=
  row2K_ok hF (fun xs ys => .int .i64 (ixF (Lib.bytesOf ys) (Lib.bytesOf xs) 0)) (fun xs ys N => vr_v N _) fun xs ys hp hx hy w hw b x c b2 x2 c2 l1 l2 h1 h2 => by
    obtain ⟨m, hm⟩ := hW.maxLen
    rw [Bool.and_eq_true, Nat.blt_eq, Nat.ble_eq] at hp
    exact (Tryz.bytes_Index_at ⟨b, x, none⟩ ⟨b2, x2, none⟩ xs.length c ys.length c2 xs ys m w rfl rfl hx hy h1 h2 l1 hp.1 hp.2 (hw.cell hm)).mono fun e w' ⟨q1, k, q2⟩ => ⟨by rw [q1, ixF_index], by rw [q2]; exact below_dn (Below.refl _ _) k⟩
theorem run_same {P : Program} {f : FuncId} {fn : Func} (hf : P.funcs[f]? = some fn) (hname : (fn.name == "runtime.NumGoroutine") = false)
    (hb : fn.body.isNone = true) (hn : (Extern.findNext fn).isNone = true) (he : Extern.find fn = some Extern.AbiNoEscape.same) (v : Value) (w : World) :
    (callFunc f #[v]).run P w = .ok (.value v) w := by
  rw [run_callFunc_extern hf hname hb (by simpa using hn) he]
  rfl
def cfg : Cfg := { strs := [], ints := [], same := [128], clone := [], laid := [(4, Lib.pow10Tab.map (Value.int .u64))] }
theorem cfg_ok : CfgOk Tryz.prog cfg where
  strs := fun x hx => by cases hx
  ints := fun x hx => by cases hx
  same := fun x hx => by
    obtain rfl := List.mem_singleton.1 hx
    exact run_same Tryz.func128 (by kernel_rfl) (by kernel_rfl) (by kernel_rfl) (by kernel_rfl)
  clone := fun x hx => by cases hx
theorem cfg_laid (hW : LW W) {w : World} (hw : Stays W w) : LaidOk cfg w := by
  intro x hx j v hj
  obtain rfl := List.mem_singleton.1 hx
  have ht := hw.tab hW.pows
  have hlt : j < Lib.pow10Tab.length := by
    have := (List.getElem?_eq_some_iff.1 hj).1
    simpa using this
  have := Lib.TabIs.cell ht (g := 4) (by kernel_rfl) j hlt
  rw [this]
  rw [List.getElem?_map] at hj
  cases hg : Lib.pow10Tab[j]? with
  | none => rw [hg] at hj; cases hj
  | some z =>
    rw [hg] at hj
    cases hj
    simp [List.getD_eq_getElem?_getD, hg]
noncomputable def clSp : ConL := [(fBIndex, kBIndex), (fSIndex, kIdxS), (103, kIdxS), (fLower, kLow), (fJoin, kJoin)]
theorem clSp_ok (hW : LW W) (hF : OldOK W F) : ∀ x ∈ clSp, C1OK Tryz.prog F x.1 x.2 :=
  con_cons (kBIndex_ok hW hF) (con_cons (kIdxS_ok hW hF) (con_cons (kIdxL_ok hW hF) (con_cons (kLow_ok hF) (con_cons (kJoin_ok hF) noC))))
set_option maxRecDepth 1000000 in
theorem speaks_calls (hW : LW W) {w : World} (hw : Stays W w) : Calls Tryz.prog fSpeaks (List.toArray []) w fun e w' => e = .returned (.bool true) ∧ Below w.heap.size w w' :=
  closed_callC (cl := clSp) (args := []) cfg_ok (by kernel_rfl) (fuel := 100000) (fun w => by kernel_rfl) (cfg_laid hW hw) (clSp_ok hW (fun D w' hF b o hv => old_here w D w' hF b o (hw b o hv)))
def gN : List AV → Option Unit
  | [] => some ()
  | _ => none
def cSpk : List AV → Option (AP AV) := vC gN (fun _ => True) (fun _ => bv true)
theorem cSpk_ok (hW : LW W) (hF : OldOK W F) : C1OK Tryz.prog F fSpeaks cSpk :=
  vC_ok hF (fun _ => []) (fun _ => .bool true) (fun A p h => by
    unfold gN at h
    split at h
    · rfl
    · cases h) (fun p N => vr_v N _) fun p _ w hw => speaks_calls hW hw
end
end Go.Proofs.YtpijbbobejeemaaGreatDoor.Htp

/- Http: HttpLets: runs. -/
set_option linter.unusedVariables false
set_option linter.unusedSimpArgs false
set_option maxRecDepth 100000
namespace Go.Proofs.YtpijbbobejeemaaGreatDoor.Htp
open Go Go.RowKit Go.Proofs.YtpijbbobejeemaaGreatDoor.Eng Go.Proofs.YtpijbbobejeemaaGreatDoor.Kit
noncomputable section
abbrev fLets : Nat := 6
abbrev fLogin : Nat := 20
abbrev fGet : Nat := 42
def aU (u p : ByteArray) (n i : Nat) : List (Nat × AV) := [(0, sv u), (1, sv p), (13, iv (Int.ofNat n)), (14, iv (Int.ofNat i))]
def hU (i : Nat) (c : UInt8) (b : Bool) : ClaimT := hintL [(fLets, 4, 0, hv (.lit true)), (fLets, 6, 2, h0v (byv c)), (fLets, 6, 3, hv (.lit b)), (fLets, 8, 0, hv (iv (Int.ofNat (i + 1))))]
theorem oU_eq (u p : ByteArray) (n i : Nat) (c : UInt8) (F : HP) : wLoop [] (hU i c false) [] default fLets (loopN fLets 4) (tms 0 48 (aU u p n i)) [] [] [0, 1, 4, 13, 14] F = VT.leaf (AX.normal, [AV.v (Value.string u), AV.v (Value.string p), AV.any, AV.v (Value.int IntKind.i64 (Int.ofNat n)), AV.v (Value.int IntKind.i64 (Int.ofNat (i + 1)))], 48) [] 1100 (((Cnd.p (Wk (AV.v (Value.bool (decide (Int.ofNat i < Int.ofNat n)))) (AV.lit true))).a Cnd.t).a (((Cnd.p (i < u.size)).a ((Cnd.p (Wk (AV.v (Value.int IntKind.u8 ↑(u.data.toList.getD i 0).toNat)) (AV.v (Value.int IntKind.u8 ↑c.toNat)))).a Cnd.t)).a (((Cnd.p (Wk (AV.v (Value.bool (↑c.toNat == Int.ofNat 58))) (AV.lit false))).a Cnd.t).a (((Cnd.p (Wk (AV.v (Value.int IntKind.i64 (IntKind.i64.wrap (Int.ofNat i + Int.ofNat 1)))) (AV.v (Value.int IntKind.i64 (Int.ofNat (i + 1)))))).a Cnd.t).a Cnd.t)))) := by kernel_rfl
theorem oUC_eq (u p : ByteArray) (n i : Nat) (c : UInt8) (F : HP) : wLoop [] (hU i c true) [] default fLets (loopN fLets 4) (tms 0 48 (aU u p n i)) [] [] [0, 1, 4, 13, 14] F = VT.leaf (AX.ret, [AV.v (Value.string u), AV.v (Value.string p), AV.v (Value.bool true), AV.v (Value.int IntKind.i64 (Int.ofNat n)), AV.v (Value.int IntKind.i64 (Int.ofNat i))], 48) [] 1100 (((Cnd.p (Wk (AV.v (Value.bool (decide (Int.ofNat i < Int.ofNat n)))) (AV.lit true))).a Cnd.t).a (((Cnd.p (i < u.size)).a ((Cnd.p (Wk (AV.v (Value.int IntKind.u8 ↑(u.data.toList.getD i 0).toNat)) (AV.v (Value.int IntKind.u8 ↑c.toNat)))).a Cnd.t)).a (((Cnd.p (Wk (AV.v (Value.bool (↑c.toNat == Int.ofNat 58))) (AV.lit true))).a Cnd.t).a Cnd.t))) := by kernel_rfl
theorem oUE_eq (u p : ByteArray) (n : Nat) (F : HP) : wLoop [] (hintL [(fLets, 4, 0, hv (.lit false))]) [] default fLets (loopN fLets 4) (tms 0 48 (aU u p n n)) [] [] [0, 1, 4, 13, 14] F = VT.leaf (AX.exit 0, [AV.v (Value.string u), AV.v (Value.string p), AV.any, AV.v (Value.int IntKind.i64 (Int.ofNat n)), AV.v (Value.int IntKind.i64 (Int.ofNat n))], 48) [] 1100 (((Cnd.p (Wk (AV.v (Value.bool (decide (Int.ofNat n < Int.ofNat n)))) (AV.lit false))).a Cnd.t).a Cnd.t) := by kernel_rfl
def gB : List AV → AP Unit := fun _ => .ret ()
def cB64 (b : List UInt8) (n : Nat) : List AV → Option (AP AV) := mkC gB (fun _ => True) (fun _ k => k) (fun _ => [sv (encB64 b)]) (fun _ => []) (fun _ => .leaf .ret [.tuple [sB 1000 n, bv true]] [(1000, rB b)])
def gEn : List AV → AP Nat := fun args => match args with
  | [.slice a _ _ _ _] => .ret a
  | _ => .fail "encode"
def nmEn (a : Nat) : Nat → Nat := fun k => match Nat.beq k 1000 with
  | true => a
  | false => k
def cEn (b : List UInt8) (n : Nat) : List AV → Option (AP AV) := mkC gEn (fun _ => True) nmEn (fun _ => [sB 1000 n]) (fun _ => [(1000, rB1 b)]) (fun _ => .leaf .ret [sv (encB64 b)] [])
def lU (u p : ByteArray) (n : Nat) : List AV → AP (AX × List AV) := mkL gB (fun _ => True) (fun _ k => k) (fun _ => tms 0 48 (aU u p n 0)) (fun _ => []) (fun _ => .leaf (.exit 0) (tms 0 48 [(0, sv u), (1, sv p)]) [])
def lUC (u p : ByteArray) (n : Nat) : List AV → AP (AX × List AV) := mkL gB (fun _ => True) (fun _ k => k) (fun _ => tms 0 48 (aU u p n 0)) (fun _ => []) (fun _ => .leaf .ret (tms 0 48 [(4, bv true)]) [])
def hLets (u p whole all : ByteArray) (v : ByteArray) : ClaimT := hintL [(fLets, 1, 1, hv (.lit false)), (fLets, 9, 1, h0), (fLets, 9, 3, h0v (sv whole)), (fLets, 9, 4, ho 1101 (rB1 whole.data.toList)), (fLets, 9, 6, h0v (sv all)),
  (fGet, 2, 0, hn), (fGet, 4, 3, hv (.lit true)), (fLogin, 2, 1, hv (.tuple [sv v, bv true])), (fLogin, 4, 1, ht whole), (fLogin, 4, 2, hv (.tuple [sv u, sv p, bv true])), (fLogin, 5, 1, hv (.lit false)), (fLogin, 5, 5, hv (.lit false)), (fLogin, 5, 9, hv (.lit false)), (fLogin, 4, 0, hn),
  (fLets, 10, 4, hv (.lit true)), (fLets, 10, 9, hv (.lit true)), (fLets, 10, 1, hv (.lit true)), (fLets, 10, 5, hv (.lit true)), (fLets, 10, 10, hv (bv true))]
theorem oLC_eq (W : World) (u p : ByteArray) (n : Nat) (F : HP) : wRun [(fSpeaks, cSpk)] (hintL [(fLets, 1, 1, hv (.lit false))]) [(fLets, 4, loopN fLets 4, lUC u p n)] W fLets [sv u, sv p] [] [] F = VT.leaf (AV.v (Value.bool true)) [] 1101 (((Cnd.p True).a Cnd.t).a (((Cnd.p (Wk (AV.v (Value.bool false)) (AV.lit false))).a Cnd.t).a ((Cnd.p ((fLets, 4, loopN fLets 4, lUC u p n).snd.snd.fst = (fLets, 4, loopN fLets 4, lUC u p n).snd.snd.fst)).a ((Cnd.p True).a ((Cnd.p (VW [AV.v (Value.string u), AV.v (Value.string p), AV.undef, AV.undef, AV.v (Value.bool false), AV.undef, AV.undef, AV.undef, AV.undef, AV.v (Value.bool true), AV.lit false, AV.v (Value.string u), AV.slice 1100 0 u.size 1 (Cp.lo u.size), AV.v (Value.int IntKind.i64 ↑u.size), AV.v (Value.int IntKind.i64 (Int.ofNat 0)), AV.undef, AV.undef, AV.undef, AV.undef, AV.undef, AV.undef, AV.undef, AV.undef, AV.undef, AV.undef, AV.undef, AV.undef, AV.undef, AV.undef, AV.undef, AV.undef, AV.undef, AV.undef, AV.undef, AV.undef, AV.undef, AV.undef, AV.undef, AV.undef, AV.undef, AV.undef, AV.undef, AV.undef, AV.undef, AV.undef, AV.undef, AV.undef, AV.undef] [AV.v (Value.string u), AV.v (Value.string p), AV.any, AV.any, AV.any, AV.any, AV.any, AV.any, AV.any, AV.any, AV.any, AV.any, AV.any, AV.v (Value.int IntKind.i64 (Int.ofNat n)), AV.v (Value.int IntKind.i64 (Int.ofNat 0)), AV.any, AV.any, AV.any, AV.any, AV.any, AV.any, AV.any, AV.any, AV.any, AV.any, AV.any, AV.any, AV.any, AV.any, AV.any, AV.any, AV.any, AV.any, AV.any, AV.any, AV.any, AV.any, AV.any, AV.any, AV.any, AV.any, AV.any, AV.any, AV.any, AV.any, AV.any, AV.any, AV.any])).a Cnd.t))))) := by kernel_rfl
theorem oL_eq (W : World) (u p whole all : ByteArray) (n m : Nat) (F : HP) : wRun [(fSpeaks, cSpk), (fEnc, cEn whole.data.toList m), (fB64, cB64 whole.data.toList m), (fCutP, cCutP), (fCut, cCut)] (hLets u p whole all (encB64 whole.data.toList)) [(fLets, 4, loopN fLets 4, lU u p n)] W fLets [sv u, sv p] [] [] F = VT.leaf (AV.v (Value.bool true)) [] 1107 (((Cnd.p True).a Cnd.t).a (((Cnd.p (Wk (AV.v (Value.bool false)) (AV.lit false))).a Cnd.t).a ((Cnd.p ((fLets, 4, loopN fLets 4, lU u p n).snd.snd.fst = (fLets, 4, loopN fLets 4, lU u p n).snd.snd.fst)).a ((Cnd.p True).a ((Cnd.p (VW [AV.v (Value.string u), AV.v (Value.string p), AV.undef, AV.undef, AV.v (Value.bool false), AV.undef, AV.undef, AV.undef, AV.undef, AV.v (Value.bool true), AV.lit false, AV.v (Value.string u), AV.slice 1100 0 u.size 1 (Cp.lo u.size), AV.v (Value.int IntKind.i64 ↑u.size), AV.v (Value.int IntKind.i64 (Int.ofNat 0)), AV.undef, AV.undef, AV.undef, AV.undef, AV.undef, AV.undef, AV.undef, AV.undef, AV.undef, AV.undef, AV.undef, AV.undef, AV.undef, AV.undef, AV.undef, AV.undef, AV.undef, AV.undef, AV.undef, AV.undef, AV.undef, AV.undef, AV.undef, AV.undef, AV.undef, AV.undef, AV.undef, AV.undef, AV.undef, AV.undef, AV.undef, AV.undef, AV.undef] [AV.v (Value.string u), AV.v (Value.string p), AV.any, AV.any, AV.any, AV.any, AV.any, AV.any, AV.any, AV.any, AV.any, AV.any, AV.any, AV.v (Value.int IntKind.i64 (Int.ofNat n)), AV.v (Value.int IntKind.i64 (Int.ofNat 0)), AV.any, AV.any, AV.any, AV.any, AV.any, AV.any, AV.any, AV.any, AV.any, AV.any, AV.any, AV.any, AV.any, AV.any, AV.any, AV.any, AV.any, AV.any, AV.any, AV.any, AV.any, AV.any, AV.any, AV.any, AV.any, AV.any, AV.any, AV.any, AV.any, AV.any, AV.any, AV.any, AV.any])).a (((Cnd.p (u.size + 1 ≤ 9223372036854775807)).a Cnd.t).a (((Cnd.p ((u ++ ByteArray.mk (Array.mk [58])).size + p.size ≤ 9223372036854775807)).a ((Cnd.p (Wk (AV.v (Value.string (u ++ ByteArray.mk (Array.mk [58]) ++ p))) (AV.v (Value.string whole)))).a Cnd.t)).a (((Cnd.p (OW (AO.cells (vmap (List.map (fun b => Value.int IntKind.u8 ↑b.toNat) whole.data.toList)) 11) (AO.cells (rowV encB whole.data.toList) 11))).a Cnd.t).a (((Cnd.p True).a ((Cnd.p (VW [AV.slice 1101 0 whole.size 1 (Cp.lo whole.size)] [AV.slice 1101 0 m 1 (Cp.lo m)])).a ((Cnd.p (OW (AO.cells (rowV encB whole.data.toList) 11) (AO.cells (AV.rens (nmEn 1101) (rowV encB whole.data.toList)) 11))).a Cnd.t))).a (((Cnd.p (6 + (encB64 whole.data.toList).size ≤ 9223372036854775807)).a ((Cnd.p (Wk (AV.v (Value.string (ByteArray.mk (Array.mk [66, 97, 115, 105, 99, 32]) ++ encB64 whole.data.toList))) (AV.v (Value.string all)))).a Cnd.t)).a ((((Cnd.p (true = true)).a ((Cnd.p ([AV.v (Value.string (ByteArray.mk (Array.mk []))), AV.v (Value.string (ByteArray.mk (Array.mk []))), AV.slice 1102 0 1 2 (Cp.ex 1), AV.v (Value.slice none 0 0)] = [AV.v (Value.string (ByteArray.mk (Array.mk []))), AV.v (Value.string (ByteArray.mk (Array.mk []))), AV.slice 1102 0 1 2 (Cp.ex 1), AV.v (Value.slice none 0 0)])).a Cnd.t)).a ((((Cnd.p (true = true)).a Cnd.t).a (((Cnd.p (true = true)).a Cnd.t).a (((Cnd.p (true = true)).a ((Cnd.p ([AV.v (Value.string (ByteArray.mk (Array.mk [97, 117, 116, 104, 111, 114, 105, 122, 97, 116, 105, 111, 110]))), AV.v (Value.string all)] = [AV.v (Value.string (ByteArray.mk (Array.mk [97, 117, 116, 104, 111, 114, 105, 122, 97, 116, 105, 111, 110]))), AV.v (Value.string all)])).a Cnd.t)).a (((Cnd.p (true = true)).a Cnd.t).a (((Cnd.p (true = true)).a ((Cnd.p (AV.v (Value.string (ByteArray.mk (Array.mk [97, 117, 116, 104, 111, 114, 105, 122, 97, 116, 105, 111, 110]))) = AV.v (Value.string (ByteArray.mk (Array.mk [97, 117, 116, 104, 111, 114, 105, 122, 97, 116, 105, 111, 110]))))).a Cnd.t)).a (((Cnd.p (Wk (AV.v (Value.bool true)) (AV.lit true))).a Cnd.t).a (((Cnd.p (true = true)).a ((Cnd.p (AV.v (Value.string all) = AV.v (Value.string all))).a Cnd.t)).a Cnd.t))))))).a (((Cnd.p True).a ((Cnd.p (Wk (AV.tuple [AV.v (Value.string (preB all (ByteArray.mk (Array.mk [66, 97, 115, 105, 99, 32])))), AV.v (Value.bool (preK all (ByteArray.mk (Array.mk [66, 97, 115, 105, 99, 32]))))]) (AV.tuple [AV.v (Value.string (encB64 whole.data.toList)), AV.v (Value.bool true)]))).a Cnd.t)).a (((Cnd.p True).a ((Cnd.p (VW [AV.v (Value.string (encB64 whole.data.toList))] [AV.v (Value.string (encB64 whole.data.toList))])).a Cnd.t)).a (((Cnd.p (0 + m ≤ (AV.rens (sgN (fun k => k) [1000] 1106) (rowV encB whole.data.toList)).length ∧ List.take m (List.drop 0 (AV.rens (sgN (fun k => k) [1000] 1106) (rowV encB whole.data.toList))) = vmap (List.map (fun b => Value.int IntKind.u8 ↑b.toNat) whole.data.toList))).a Cnd.t).a (((Cnd.p (whole.size < 4294967281)).a ((Cnd.p (Wk (AV.tuple [AV.v (Value.string (cut1 whole (ByteArray.mk (Array.mk [58])))), AV.v (Value.string (cut2 whole (ByteArray.mk (Array.mk [58])))), AV.v (Value.bool (cutK whole (ByteArray.mk (Array.mk [58]))))]) (AV.tuple [AV.v (Value.string u), AV.v (Value.string p), AV.v (Value.bool true)]))).a Cnd.t)).a (((Cnd.p (Wk (AV.v (Value.bool false)) (AV.lit false))).a Cnd.t).a (((Cnd.p (Wk (AV.v (Value.bool false)) (AV.lit false))).a Cnd.t).a (((Cnd.p (Wk (AV.v (Value.bool false)) (AV.lit false))).a Cnd.t).a Cnd.t))))))))).a (((Cnd.p (Wk (AV.v (Value.bool true)) (AV.lit true))).a Cnd.t).a (((Cnd.p (Wk (AV.v (Value.bool (u.toList == u.toList))) (AV.lit true))).a Cnd.t).a (((Cnd.p (Wk (AV.lit true) (AV.lit true))).a Cnd.t).a (((Cnd.p (Wk (AV.v (Value.bool (p.toList == p.toList))) (AV.lit true))).a Cnd.t).a (((Cnd.p (Wk (AV.lit true) (AV.v (Value.bool true)))).a Cnd.t).a Cnd.t)))))))))))))))) := by kernel_rfl
end
end Go.Proofs.YtpijbbobejeemaaGreatDoor.Htp

/- Http: HttpLets. -/
set_option linter.unusedVariables false
set_option linter.unusedSimpArgs false
set_option maxRecDepth 100000
namespace Go.Proofs.YtpijbbobejeemaaGreatDoor.Htp
open Go Go.RowKit Go.Proofs.YtpijbbobejeemaaGreatDoor.Eng Go.Proofs.YtpijbbobejeemaaGreatDoor.Kit
theorem index_first (c : UInt8) : ∀ (u v : List UInt8), c ∉ u → Lib.index (u ++ c :: v) [c] = u.length
  | [], v, _ => by simp [Lib.index, List.isPrefixOf]
  | x :: u, v, h => by
    have hx : (c == x) = false := beq_eq_false_iff_ne.2 (fun e => h (by subst e; exact List.mem_cons_self))
    have ih := index_first c u v (fun e => h (List.mem_cons_of_mem _ e))
    rw [List.cons_append, Lib.index]
    have hp : [c].isPrefixOf (x :: (u ++ c :: v)) = false := by simp [List.isPrefixOf, hx]
    rw [hp]
    simp only [Bool.false_eq_true, if_false]
    rw [ih]
    have h2 : (((u.length : Nat) : Int) == -1) = false := by rw [beq_eq_false_iff_ne]; omega
    rw [h2]
    simp
theorem cut_first (c : UInt8) (u v : List UInt8) (h : c ∉ u) : Lib.cut (u ++ c :: v) [c] = (u, v, true) := by
  unfold Lib.cut
  rw [index_first c u v h, if_pos (by omega)]
  simp
theorem pre_cut (a b : List UInt8) : Lib.hasPrefix (a ++ b) a = true := by
  unfold Lib.hasPrefix
  rw [List.isPrefixOf_iff_prefix]
  exact List.prefix_append a b
def wholeB (u p : ByteArray) : ByteArray := u ++ ByteArray.mk (Array.mk [58]) ++ p
theorem whole_data (u p : ByteArray) : (wholeB u p).data.toList = u.data.toList ++ 58 :: p.data.toList := by
  unfold wholeB
  rw [ba_app, ba_app]; simp
theorem whole_size (u p : ByteArray) : (wholeB u p).size = u.size + 1 + p.size := by
  rw [← ba_size, whole_data, List.length_append, List.length_cons, ba_size, ba_size]; omega
theorem cut_whole (u p : ByteArray) (h : (58 : UInt8) ∉ u.data.toList) : cut1 (wholeB u p) (ByteArray.mk (Array.mk [58])) = u ∧ cut2 (wholeB u p) (ByteArray.mk (Array.mk [58])) = p ∧ cutK (wholeB u p) (ByteArray.mk (Array.mk [58])) = true := by
  have : Lib.cut (wholeB u p).data.toList [58] = (u.data.toList, p.data.toList, true) := by rw [whole_data]; exact cut_first 58 _ _ h
  unfold cut1 cut2 cutK
  show tB (Lib.cut (wholeB u p).data.toList [58]).1 = u ∧ tB (Lib.cut (wholeB u p).data.toList [58]).2.1 = p ∧ (Lib.cut (wholeB u p).data.toList [58]).2.2 = true
  rw [this]
  exact ⟨tB_self _, tB_self _, rfl⟩
theorem pre_all (a e : ByteArray) : preB (a ++ e) a = e ∧ preK (a ++ e) a = true := by
  unfold preB preK
  rw [ba_app]
  refine ⟨?_, pre_cut _ _⟩
  unfold Lib.trimPrefix
  rw [pre_cut, if_pos rfl, List.drop_left, tB_self]
/-! The loop over the user's name. -/
theorem gB_ro : ∀ args, RO (gB args) := fun _ => RO.ret _
theorem eqc {a b : UInt8} (h : a = b) : (((a.toNat : Nat) : Int) == ((b.toNat : Nat) : Int)) = true := by subst h; simp
theorem nec {a b : UInt8} (h : a ≠ b) : (((a.toNat : Nat) : Int) == ((b.toNat : Nat) : Int)) = false := by
  rw [beq_eq_false_iff_ne]
  intro e
  exact h (UInt8.toNat_inj.1 (Int.ofNat.inj e))
theorem u_loop (u p : ByteArray) (hu : u.size ≤ 2000000) (h : (58 : UInt8) ∉ u.data.toList) :
    LTri Tryz.prog default (loopN fLets 4) (tms 0 48 (aU u p u.size 0)) [] (.exit 0) (tms 0 48 [(0, sv u), (1, sv p)]) [] := by
  refine ltri_run (W := default) (g := fLets) (b := loopN fLets 4) (σ := {i : Nat // i ≤ u.size}) 48 (fun i => aU u p u.size i.1) (fun i => []) (.exit 0) _ [] (fun i => u.size - i.1) [] [0, 1, 4, 13, 14] (by intro h; cases h) (fun i => rfl) rfl ?_ ⟨0, Nat.zero_le _⟩
  rintro ⟨i, hi⟩
  simp only
  by_cases h1 : i < u.size
  · have hw := wrap_succ i (by omega)
    have e1 := ltTN h1
    have hne : u.data.toList.getD i 0 ≠ 58 := fun e => h (by rw [← e]; exact getD_lt h1)
    have e2 := nec hne
    refine ⟨[], hU i (u.data.toList.getD i 0) false, [], fun _ _ => noC, fun _ _ => noL, fun F => ?_⟩
    refine cast (congrArg (VAll _) (oU_eq u p u.size i (u.data.toList.getD i 0) F).symm) ⟨⟨?_, rfl, .inl ⟨rfl, ⟨i + 1, h1⟩, sub_down h1, [], by kernel_rfl, by kernel_rfl, ⟨Wk.refl _, Wk.refl _, Wk.refl _, Wk.refl _, trivial⟩, trivial⟩⟩⟩
    simp only [Cnd.holds, e1, h1, Nat.blt_eq, true_and, and_true]
    and_intros
    all_goals first
      | (with_reducible exact wk_int hw)
      | exact wk_litE e2
      | (with_reducible exact trivial)
      | (with_reducible exact rfl)
      | (with_reducible exact Wk.refl _)
      | (with_reducible exact VW.refl _)
      | (with_reducible exact OW.refl _)
      | (with_reducible exact wk_lit _)
      | (with_reducible assumption)
      | exact rfl
      | exact Wk.refl _
      | exact VW.refl _
      | exact OW.refl _
      | ((repeat (first | exact VW.nil | refine VW.cons (Wk.refl _) ?_ | refine VW.cons (Wk.any _) ?_ | refine VW.cons (wk_cap (Nat.le_refl _)) ?_)); done)
  · have hje : i = u.size := by omega
    subst hje
    refine ⟨[], hintL [(fLets, 4, 0, hv (.lit false))], [], fun _ _ => noC, fun _ _ => noL, fun F => ?_⟩
    refine cast (congrArg (VAll _) (oUE_eq u p u.size F).symm) ⟨⟨?_, rfl, .inr ⟨rfl, [], by kernel_rfl, by kernel_rfl, ⟨Wk.refl _, Wk.refl _, trivial⟩, trivial⟩⟩⟩
    simp only [Cnd.holds, and_true]
    exact wk_litE (ltFN (Nat.le_refl _))
theorem uc_loop (u p : ByteArray) (hu : u.size ≤ 2000000) (h : (58 : UInt8) ∈ u.data.toList) :
    LTri Tryz.prog default (loopN fLets 4) (tms 0 48 (aU u p u.size 0)) [] .ret (tms 0 48 [(4, bv true)]) [] := by
  obtain ⟨k, hk, hg⟩ := List.getElem_of_mem h
  refine ltri_run (W := default) (g := fLets) (b := loopN fLets 4) (σ := {i : Nat // i ≤ k}) 48 (fun i => aU u p u.size i.1) (fun i => []) .ret _ [] (fun i => k - i.1) [] [0, 1, 4, 13, 14] (by intro h; cases h) (fun i => rfl) rfl ?_ ⟨0, Nat.zero_le _⟩
  rintro ⟨i, hi⟩
  simp only
  have hk : k < u.size := hk
  have h1 : i < u.size := by omega
  have hw := wrap_succ i (by omega)
  have e1 := ltTN h1
  by_cases hc : u.data.toList.getD i 0 = 58
  · have e2 := eqc hc
    refine ⟨[], hU i (u.data.toList.getD i 0) true, [], fun _ _ => noC, fun _ _ => noL, fun F => ?_⟩
    refine cast (congrArg (VAll _) (oUC_eq u p u.size i (u.data.toList.getD i 0) F).symm) ⟨⟨?_, rfl, .inr ⟨rfl, [], by kernel_rfl, by kernel_rfl, ⟨Wk.refl _, trivial⟩, trivial⟩⟩⟩
    simp only [Cnd.holds, e1, h1, Nat.blt_eq, true_and, and_true]
    and_intros
    all_goals first
      | exact wk_litE e2
      | (with_reducible exact trivial)
      | (with_reducible exact rfl)
      | (with_reducible exact Wk.refl _)
      | (with_reducible exact VW.refl _)
      | (with_reducible exact OW.refl _)
      | (with_reducible exact wk_lit _)
      | (with_reducible assumption)
      | exact rfl
      | exact Wk.refl _
      | exact VW.refl _
      | exact OW.refl _
      | ((repeat (first | exact VW.nil | refine VW.cons (Wk.refl _) ?_ | refine VW.cons (Wk.any _) ?_ | refine VW.cons (wk_cap (Nat.le_refl _)) ?_)); done)
  · have e2 := nec hc
    have hlt : i < k := by
      rcases Nat.lt_or_ge i k with h2 | h2
      · exact h2
      · have : i = k := by omega
        subst this
        exact absurd (by rw [List.getD_eq_getElem?_getD, List.getElem?_eq_getElem hk]; exact hg) hc
    refine ⟨[], hU i (u.data.toList.getD i 0) false, [], fun _ _ => noC, fun _ _ => noL, fun F => ?_⟩
    refine cast (congrArg (VAll _) (oU_eq u p u.size i (u.data.toList.getD i 0) F).symm) ⟨⟨?_, rfl, .inl ⟨rfl, ⟨i + 1, hlt⟩, sub_down hlt, [], by kernel_rfl, by kernel_rfl, ⟨Wk.refl _, Wk.refl _, Wk.refl _, Wk.refl _, trivial⟩, trivial⟩⟩⟩
    simp only [Cnd.holds, e1, h1, Nat.blt_eq, true_and, and_true]
    and_intros
    all_goals first
      | (with_reducible exact wk_int hw)
      | exact wk_litE e2
      | (with_reducible exact trivial)
      | (with_reducible exact rfl)
      | (with_reducible exact Wk.refl _)
      | (with_reducible exact VW.refl _)
      | (with_reducible exact OW.refl _)
      | (with_reducible exact wk_lit _)
      | (with_reducible assumption)
      | exact rfl
      | exact Wk.refl _
      | exact VW.refl _
      | exact OW.refl _
      | ((repeat (first | exact VW.nil | refine VW.cons (Wk.refl _) ?_ | refine VW.cons (Wk.any _) ?_ | refine VW.cons (wk_cap (Nat.le_refl _)) ?_)); done)
theorem lU_ok (u p : ByteArray) (hu : u.size ≤ 2000000) (h : (58 : UInt8) ∉ u.data.toList) (F : HP) : L1OK Tryz.prog F (loopN fLets 4) (lU u p u.size) :=
  mkL_ok (W := default) oldDef gB_ro (fun _ _ => u_loop u p hu h) fun _ => by
    simp only [RT.pick]
    exact closedT rfl rfl (all_cons trivial (all_cons trivial (all_cons trivial (all_cons trivial all_nil)))) all_nil (all_cons trivial (all_cons trivial all_nil)) all_nil
theorem lUC_ok (u p : ByteArray) (hu : u.size ≤ 2000000) (h : (58 : UInt8) ∈ u.data.toList) (F : HP) : L1OK Tryz.prog F (loopN fLets 4) (lUC u p u.size) :=
  mkL_ok (W := default) oldDef gB_ro (fun _ _ => uc_loop u p hu h) fun _ => by
    simp only [RT.pick]
    exact closedT rfl rfl (all_cons trivial (all_cons trivial (all_cons trivial (all_cons trivial all_nil)))) all_nil (all_cons trivial all_nil) all_nil
theorem cB64_ok (b : List UInt8) (hb : b.length ≤ 2000000) (h0 : b ≠ []) (F : HP) : C1OK Tryz.prog F fB64 (cB64 b b.length) :=
  mkC_ok (W := default) oldDef (fun _ => .tuple [sB 1000 b.length, bv true]) gB_ro (fun _ => rfl) (fun _ _ => B64_tri b hb h0) fun _ => ⟨rfl, rfl, ⟨trivial, trivial⟩, all_nil, ⟨⟨rfl, trivial, trivial⟩, trivial⟩, all_cons (rB_cl _ _) all_nil⟩
theorem gEn_ro : ∀ args, RO (gEn args) := by
  intro args
  unfold gEn
  split
  · exact RO.ret _
  · exact RO.fail _
theorem cEn_ok (b : List UInt8) (hb : b.length ≤ 2000000) (F : HP) : C1OK Tryz.prog F fEnc (cEn b b.length) :=
  mkC_ok (W := default) oldDef (fun _ => sv (encB64 b)) gEn_ro (fun _ => rfl) (fun _ _ => Encode_tri b hb) fun _ => ⟨rfl, rfl, ⟨rfl, trivial⟩, all_cons (rB1_cl _ _) all_nil, ⟨trivial, trivial⟩, all_nil⟩
theorem Lets_tri {W : World} (hW : LW W) (u p : ByteArray) (h : u.size + p.size ≤ 1100000) : Tri Tryz.prog W fLets [sv u, sv p] [] (bv true) [] := by
  by_cases hc : (58 : UInt8) ∈ u.data.toList
  · refine tri_run (con := [(fSpeaks, cSpk)]) (hints := hintL [(fLets, 1, 1, hv (.lit false))]) (lc := [(fLets, 4, loopN fLets 4, lUC u p u.size)]) [] rfl (fun F hF => one_c (cSpk_ok hW hF)) (fun F _ => one_l (lUC_ok u p (by omega) hc F)) fun F => ?_
    refine cast (congrArg (VAll _) (oLC_eq W u p u.size F).symm) ⟨⟨?_, fits_true⟩⟩
    simp only [Cnd.holds, Nat.blt_eq, true_and, and_true]
    and_intros
    all_goals first
      | (with_reducible exact trivial)
      | (with_reducible exact rfl)
      | (with_reducible exact Wk.refl _)
      | (with_reducible exact VW.refl _)
      | (with_reducible exact OW.refl _)
      | (with_reducible exact wk_lit _)
      | (with_reducible assumption)
      | exact rfl
      | exact Wk.refl _
      | exact VW.refl _
      | exact OW.refl _
      | ((repeat (first | exact VW.nil | refine VW.cons (Wk.refl _) ?_ | refine VW.cons (Wk.any _) ?_ | refine VW.cons (wk_cap (Nat.le_refl _)) ?_)); done)
  · have hwd := whole_data u p
    have hws := whole_size u p
    have hwl : (wholeB u p).data.toList.length = (wholeB u p).size := rfl
    have hne : (wholeB u p).data.toList ≠ [] := by rw [hwd]; simp
    obtain ⟨k1, k2, k3⟩ := cut_whole u p hc
    obtain ⟨p1, p2⟩ := pre_all (ByteArray.mk (Array.mk [66, 97, 115, 105, 99, 32])) (encB64 (wholeB u p).data.toList)
    have hel := encL_len (wholeB u p).data.toList
    have hes : (encB64 (wholeB u p).data.toList).size = (encL (wholeB u p).data.toList).length := tB_size _
    refine tri_run (con := [(fSpeaks, cSpk), (fEnc, cEn (wholeB u p).data.toList (wholeB u p).data.toList.length), (fB64, cB64 (wholeB u p).data.toList (wholeB u p).data.toList.length), (fCutP, cCutP), (fCut, cCut)]) (hints := hLets u p (wholeB u p) (ByteArray.mk (Array.mk [66, 97, 115, 105, 99, 32]) ++ encB64 (wholeB u p).data.toList) (encB64 (wholeB u p).data.toList)) (lc := [(fLets, 4, loopN fLets 4, lU u p u.size)]) [] rfl
      (fun F hF => con_cons (cSpk_ok hW hF) (con_cons (cEn_ok _ (by omega) F) (con_cons (cB64_ok _ (by omega) hne F) (con_cons (cCutP_ok hF) (one_c (cCut_ok hW hF)))))) (fun F _ => one_l (lU_ok u p (by omega) hc F)) fun F => ?_
    refine cast (congrArg (VAll _) (oL_eq W u p (wholeB u p) _ u.size (wholeB u p).data.toList.length F).symm) ⟨⟨?_, fits_true⟩⟩
    have q0 : (ByteArray.mk (Array.mk [58])).size = 1 := rfl
    have q1 : u.size + 1 ≤ 9223372036854775807 := by omega
    have q2 : (u ++ ByteArray.mk (Array.mk [58])).size + p.size ≤ 9223372036854775807 := by rw [ByteArray.size_append, q0]; omega
    have q3 : 6 + (encB64 (wholeB u p).data.toList).size ≤ 9223372036854775807 := by omega
    have q4 : (wholeB u p).size < 4294967281 := by omega
    have q5 : (rowV encB (wholeB u p).data.toList).length = (wholeB u p).size := rB_len _
    have q6 : List.take (wholeB u p).data.toList.length (List.drop 0 (rowV encB (wholeB u p).data.toList)) = vmap (List.map (fun b => Value.int IntKind.u8 ↑b.toNat) (wholeB u p).data.toList) := by
      rw [List.drop_zero, List.take_of_length_le (by rw [rB_len]; exact Nat.le_refl _), rowB_map]
    simp only [Cnd.holds, rens_rowV, k1, k2, k3, p1, p2, q1, q2, q3, q4, q5, q6, beq_self_eq_true, Nat.blt_eq, true_and, and_true]
    and_intros
    all_goals first
      | exact ow_cells (rowB_map _).symm
      | (rw [hwl]; omega)
      | (with_reducible exact trivial)
      | (with_reducible exact rfl)
      | (with_reducible exact Wk.refl _)
      | (with_reducible exact VW.refl _)
      | (with_reducible exact OW.refl _)
      | (with_reducible exact wk_lit _)
      | (with_reducible assumption)
      | exact rfl
      | exact Wk.refl _
      | exact VW.refl _
      | exact OW.refl _
      | ((repeat (first | exact VW.nil | refine VW.cons (Wk.refl _) ?_ | refine VW.cons (Wk.any _) ?_ | refine VW.cons (wk_cap (Nat.le_refl _)) ?_)); done)
end Go.Proofs.YtpijbbobejeemaaGreatDoor.Htp

/- Rows of records, as cells. No program. -/
set_option linter.unusedVariables false
set_option linter.unusedSimpArgs false
namespace Go.Proofs.YtpijbbobejeemaaGreatDoor
open Go

end Go.Proofs.YtpijbbobejeemaaGreatDoor

/- A slice of structs that comes in, whatever its struct: its cells, read as a list of plain records. -/
set_option linter.unusedVariables false
set_option linter.unusedSimpArgs false
namespace Go.Proofs.YtpijbbobejeemaaGreatDoor
open Go.ChangeShapes Go.WideShapes Go.RowKit Go.Deep
section
variable {H : Type} {enc : TypeId × Value → H} {P : Program} {w : World} {base : Nat} {spare : Nat → Bool} {held : Bool}
def Light (P : Program) (t : TypeId) (d : DataW H) : Prop := ∀ n ∈ d.weights P t, n ≤ reachBytes
theorem Light.len {t e : TypeId} {elems sp : List (DataW H)} (hu : P.underlying t = some (.slice e)) (h : Light P t (.slice elems sp)) : (elems.length + sp.length) * P.bytesOf e ≤ reachBytes :=
  h _ (by simp only [DataW.weights, hu, List.mem_cons, true_or])
theorem Light.field {t : TypeId} {fs : Array Field} {parts : List (DataW H)} (hu : P.underlying t = some (.struct fs)) (h : Light P t (.agg parts)) {i : Nat} {f : Field} {d : DataW H} (hf : fs[i]? = some f) (hp : parts[i]? = some d) : Light P f.type d := fun n hn => by
  refine h n ?_
  simp only [DataW.weights, hu]
  exact DataW.weights_mem_each (j := i) (by simp [hf]) hp n hn
end
end Go.Proofs.YtpijbbobejeemaaGreatDoor

/- What the bound of the second form gives. -/
set_option linter.unusedVariables false
set_option linter.unusedSimpArgs false
namespace Go.Proofs.YtpijbbobejeemaaGreatDoor.Upto
open Go.ChangeShapes Go.WideShapes Go.RowKit Go.Deep
theorem string_eq {H : Type} (bytes : List UInt8) : Rows.uptoBulk (DataW.lit (H := H) (.string bytes)) = bytes.length + 1 := by
  simp [Rows.uptoBulk]
theorem bound {H : Type} {l : List (DataW H)} (hk : Rows.uptoSmall H l = true) : Rows.uptoBulkAll l ≤ 1048576 := of_decide_eq_true hk
theorem int_eq {H : Type} (k : IntKind) (n : Int) : Rows.uptoBulk (DataW.lit (H := H) (.int k n)) = 1 := by simp [Rows.uptoBulk]
theorem len_data (s : ByteArray) : s.data.toList.length = s.size := rfl
end Go.Proofs.YtpijbbobejeemaaGreatDoor.Upto

/- A row's witness where the variables are told one beside the other. No program. -/
set_option linter.unusedVariables false
set_option linter.unusedSimpArgs false
namespace Go.Proofs.YtpijbbobejeemaaGreatDoor.Wit
open Go
theorem row_zip {H : Type} {enc : TypeId × Value → H} {C : Checked} {os : Os} {f : FuncId} {fn : Func} {s : OpenSpec} {conds : List PathCond} {apart : Bool} {laid : List (String × DataW Unit)} (w0 : World) (args : Array Value) (hos : w0.os = os)
    (hv : (w0.forCall (fun _ _ => 0) ⟨#[], args, []⟩).variablesZipB C.prog = true)
    (hr : ((w0.forCall (fun _ _ => 0) ⟨#[], args, []⟩).heap.toList.drop C.prog.globals.size).take ((begin C.prog (fun _ _ => 0) default).world.heap.size - C.prog.globals.size) =
      (begin C.prog (fun _ _ => 0) default).world.heap.toList.drop C.prog.globals.size)
    (hok : Input.okWideB C.prog (w0.forCall (fun _ _ => 0) ⟨#[], args, []⟩) f ⟨#[], args, []⟩ = true)
    (hrow : s.preRow enc C.prog fn conds apart laid (w0.forCall (fun _ _ => 0) ⟨#[], args, []⟩).memory args) :
    ∃ (w : World) (tape : Tape) (i : Input), w.os = os ∧ (w.forCall tape i).Shaped C.prog ∧ i.vars = [] ∧ Input.okWide C.prog (w.forCall tape i) .any w.heap.size f i ∧
      s.preRow enc C.prog fn conds apart laid (w.forCall tape i).memory i.args ∧ ({} : Assume).holds C.prog (lone (Frame.enter C.prog f i.args .normal) [] (w.forCall tape i)) :=
  ⟨w0, fun _ _ => 0, ⟨#[], args, []⟩, hos, World.shaped_of_ZipB hv hr, (Input.okWide_of_okWideB (base := 0) hok).1, (Input.okWide_of_okWideB hok).2, hrow, by
    simp [Assume.holds]⟩
theorem int_in {n : Int} (h : (Lit.int .i64 n).wf = true) : -9223372036854775808 ≤ n ∧ n ≤ 9223372036854775807 := by
  simp only [Lit.wf, Bool.and_eq_true, decide_eq_true_eq] at h
  have h1 : IntKind.i64.min = -9223372036854775808 := by decide
  have h2 : IntKind.i64.max = 9223372036854775807 := by decide
  rw [h1, h2] at h
  exact h
theorem int_lo {n : Int} (h : (Lit.int .i64 n).wf = true) : -9223372036854775808 ≤ n := (int_in h).1
theorem int_hi {n : Int} (h : (Lit.int .i64 n).wf = true) : n ≤ 9223372036854775807 := (int_in h).2
end Go.Proofs.YtpijbbobejeemaaGreatDoor.Wit

/- Http: digits; statuses; responses: runs. -/
set_option linter.unusedVariables false
set_option linter.unusedSimpArgs false
set_option maxRecDepth 100000
namespace Go.Proofs.YtpijbbobejeemaaGreatDoor.Htp
open Go Go.RowKit Go.Proofs.YtpijbbobejeemaaGreatDoor.Eng Go.Proofs.YtpijbbobejeemaaGreatDoor.Kit
noncomputable section
abbrev fDigits : Nat := 41
abbrev fReason : Nat := 16
abbrev fRReason : Nat := 17
abbrev fRespond : Nat := 18
abbrev fRRespond : Nat := 19
abbrev fResponds : Nat := 5
def b1 (x : UInt8) : ByteArray := ⟨#[x]⟩
def aD (n : Nat) (s : ByteArray) : List (Nat × AV) := [(0, iv (Int.ofNat n)), (3, sv s)]
def hD (n d e m : Nat) (x : UInt8) : ClaimT := hintL [(fDigits, 2, 1, hv (.lit true)), (fDigits, 3, 1, hv (iv (Int.ofNat d))), (fDigits, 3, 2, hv (iv (Int.ofNat e))), (fDigits, 3, 3, hv (byv x)), (fDigits, 3, 5, ht (b1 x)), (fDigits, 3, 7, h0), (fDigits, 4, 1, hv (iv (Int.ofNat m)))]
theorem oD_eq (s : ByteArray) (n d e m : Nat) (x : UInt8) (F : HP) : wLoop [] (hD n d e m x) [] default fDigits (loopN fDigits 2) (tms 0 23 (aD n s)) [] [] [0, 3] F = VT.leaf (AX.normal, [AV.v (Value.int IntKind.i64 (Int.ofNat m)), AV.v (Value.string (b1 x ++ s))], 23) [] 1101 (((Cnd.p (Wk (AV.v (Value.bool (decide (Int.ofNat n > Int.ofNat 9)))) (AV.lit true))).a Cnd.t).a (((Cnd.p (Wk (AV.v (Value.int IntKind.i64 ((Int.ofNat n).tmod (Int.ofNat 10)))) (AV.v (Value.int IntKind.i64 (Int.ofNat d))))).a Cnd.t).a (((Cnd.p (Wk (AV.v (Value.int IntKind.i64 (IntKind.i64.wrap (Int.ofNat 48 + Int.ofNat d)))) (AV.v (Value.int IntKind.i64 (Int.ofNat e))))).a Cnd.t).a (((Cnd.p (Wk (AV.v (Value.int IntKind.u8 (IntKind.u8.wrap (Int.ofNat e)))) (AV.v (Value.int IntKind.u8 ↑x.toNat)))).a Cnd.t).a (((Cnd.p (1 ≤ 1 ∧ [AV.v (Value.int IntKind.u8 ↑x.toNat)] = [AV.v (Value.int IntKind.u8 ↑x.toNat)])).a Cnd.t).a (((Cnd.p (1 + s.size ≤ 9223372036854775807)).a Cnd.t).a (((Cnd.p (Wk (AV.v (Value.int IntKind.i64 (IntKind.i64.wrap ((Int.ofNat n).tdiv (Int.ofNat 10))))) (AV.v (Value.int IntKind.i64 (Int.ofNat m))))).a Cnd.t).a Cnd.t))))))) := by kernel_rfl
theorem oDE_eq (s : ByteArray) (n : Nat) (F : HP) : wLoop [] (hintL [(fDigits, 2, 1, hv (.lit false))]) [] default fDigits (loopN fDigits 2) (tms 0 23 (aD n s)) [] [] [0, 3] F = VT.leaf (AX.exit 0, [AV.v (Value.int IntKind.i64 (Int.ofNat n)), AV.v (Value.string s)], 23) [] 1100 (((Cnd.p (Wk (AV.v (Value.bool (decide (Int.ofNat n > Int.ofNat 9)))) (AV.lit false))).a Cnd.t).a Cnd.t) := by kernel_rfl
def gU : List AV → AP Unit := fun _ => .ret ()
def lD (n k : Nat) (s : ByteArray) : List AV → AP (AX × List AV) := mkL gU (fun _ => True) (fun _ k => k) (fun _ => tms 0 23 (aD n (ByteArray.mk (Array.mk [])))) (fun _ => []) (fun _ => .leaf (.exit 0) (tms 0 23 (aD k s)) [])
theorem oDg_eq (n k e : Nat) (x : UInt8) (s : ByteArray) (F : HP) : wRun [] (hintL [(fDigits, 5, 1, hv (iv (Int.ofNat e))), (fDigits, 5, 2, hv (byv x)), (fDigits, 5, 4, ht (b1 x)), (fDigits, 5, 6, h0)]) [(fDigits, 2, loopN fDigits 2, lD n k s)] default fDigits [iv (Int.ofNat n)] [] [] F = VT.leaf (AV.v (Value.string (b1 x ++ s))) [] 1101 ((Cnd.p ((fDigits, 2, loopN fDigits 2, lD n k s).snd.snd.fst = (fDigits, 2, loopN fDigits 2, lD n k s).snd.snd.fst)).a ((Cnd.p True).a ((Cnd.p (VW [AV.v (Value.int IntKind.i64 (Int.ofNat n)), AV.undef, AV.v (Value.string (ByteArray.mk (Array.mk []))), AV.v (Value.string (ByteArray.mk (Array.mk []))), AV.undef, AV.undef, AV.undef, AV.undef, AV.undef, AV.undef, AV.undef, AV.undef, AV.undef, AV.undef, AV.undef, AV.undef, AV.undef, AV.undef, AV.undef, AV.undef, AV.undef, AV.undef, AV.undef] [AV.v (Value.int IntKind.i64 (Int.ofNat n)), AV.any, AV.any, AV.v (Value.string (ByteArray.mk (Array.mk []))), AV.any, AV.any, AV.any, AV.any, AV.any, AV.any, AV.any, AV.any, AV.any, AV.any, AV.any, AV.any, AV.any, AV.any, AV.any, AV.any, AV.any, AV.any, AV.any])).a (((Cnd.p (Wk (AV.v (Value.int IntKind.i64 (IntKind.i64.wrap (Int.ofNat 48 + Int.ofNat k)))) (AV.v (Value.int IntKind.i64 (Int.ofNat e))))).a Cnd.t).a (((Cnd.p (Wk (AV.v (Value.int IntKind.u8 (IntKind.u8.wrap (Int.ofNat e)))) (AV.v (Value.int IntKind.u8 ↑x.toNat)))).a Cnd.t).a (((Cnd.p (1 ≤ 1 ∧ [AV.v (Value.int IntKind.u8 ↑x.toNat)] = [AV.v (Value.int IntKind.u8 ↑x.toNat)])).a Cnd.t).a (((Cnd.p (1 + s.size ≤ 9223372036854775807)).a Cnd.t).a Cnd.t))))))) := by kernel_rfl
def reasonB (st : Int) : ByteArray := cond (st == Int.ofNat 200) (ByteArray.mk (Array.mk [79, 75])) (cond (st == Int.ofNat 204) (ByteArray.mk (Array.mk [78, 111, 32, 67, 111, 110, 116, 101, 110, 116])) (cond (st == Int.ofNat 400) (ByteArray.mk (Array.mk [66, 97, 100, 32, 82, 101, 113, 117, 101, 115, 116])) (cond (st == Int.ofNat 401) (ByteArray.mk (Array.mk [85, 110, 97, 117, 116, 104, 111, 114, 105, 122, 101, 100])) (cond (st == Int.ofNat 404) (ByteArray.mk (Array.mk [78, 111, 116, 32, 70, 111, 117, 110, 100])) (cond (st == Int.ofNat 413) (ByteArray.mk (Array.mk [67, 111, 110, 116, 101, 110, 116, 32, 84, 111, 111, 32, 76, 97, 114, 103, 101])) (ByteArray.mk (Array.mk [])))))))
def gI : List AV → AP Int := fun args => match args with
  | [.v (.int .i64 n)] => .ret n
  | _ => .fail "number"
def cDg : List AV → Option (AP AV) := mkC gI (fun n => 0 ≤ n ∧ n < 9223372036854775807) (fun _ i => i) (fun n => [iv n]) (fun _ => []) (fun n => .leaf .ret [sv (itoaB n)] [])
def cRe : List AV → Option (AP AV) := mkC gI (fun _ => True) (fun _ i => i) (fun n => [iv n]) (fun _ => []) (fun n => .leaf .ret [sv (reasonB n)] [])
theorem oRs_eq (st : Int) (F : HP) : wRun [] noHints [] default fReason [iv st] [] [] F = VT.ite (st == Int.ofNat 200) (VT.leaf (AV.v (Value.string (ByteArray.mk (Array.mk [79, 75])))) [] 1100 Cnd.t) (VT.ite (st == Int.ofNat 204) (VT.leaf (AV.v (Value.string (ByteArray.mk (Array.mk [78, 111, 32, 67, 111, 110, 116, 101, 110, 116])))) [] 1100 Cnd.t) (VT.ite (st == Int.ofNat 400) (VT.leaf (AV.v (Value.string (ByteArray.mk (Array.mk [66, 97, 100, 32, 82, 101, 113, 117, 101, 115, 116])))) [] 1100 Cnd.t) (VT.ite (st == Int.ofNat 401) (VT.leaf (AV.v (Value.string (ByteArray.mk (Array.mk [85, 110, 97, 117, 116, 104, 111, 114, 105, 122, 101, 100])))) [] 1100 Cnd.t) (VT.ite (st == Int.ofNat 404) (VT.leaf (AV.v (Value.string (ByteArray.mk (Array.mk [78, 111, 116, 32, 70, 111, 117, 110, 100])))) [] 1100 Cnd.t) (VT.ite (st == Int.ofNat 413) (VT.leaf (AV.v (Value.string (ByteArray.mk (Array.mk [67, 111, 110, 116, 101, 110, 116, 32, 84, 111, 111, 32, 76, 97, 114, 103, 101])))) [] 1100 Cnd.t) (VT.leaf (AV.v (Value.string (ByteArray.mk (Array.mk [])))) [] 1100 Cnd.t)))))) := by kernel_rfl
theorem oRr_eq (st : Int) (F : HP) : wRun [] (hintL [(fRReason, 4, 1, hn), (fRReason, 5, 1, hn)]) [] default fRReason [iv st] [] [] F = VT.ite (Int.ofNat 200 == st) (VT.leaf (AV.v (Value.string (ByteArray.mk (Array.mk [79, 75])))) [] 1102 (((Cnd.p (true = true)).a Cnd.t).a (((Cnd.p (true = true)).a Cnd.t).a (((Cnd.p (true = true)).a Cnd.t).a (((Cnd.p (true = true)).a ((Cnd.p (AV.v (Value.int IntKind.i64 (Int.ofNat 200)) = AV.v (Value.int IntKind.i64 (Int.ofNat 200)))).a Cnd.t)).a (((Cnd.p (true = true)).a Cnd.t).a (((Cnd.p (true = true)).a ((Cnd.p (AV.v (Value.string (ByteArray.mk (Array.mk [79, 75]))) = AV.v (Value.string (ByteArray.mk (Array.mk [79, 75]))))).a Cnd.t)).a Cnd.t))))))) (VT.ite (Int.ofNat 204 == st) (VT.leaf (AV.v (Value.string (ByteArray.mk (Array.mk [78, 111, 32, 67, 111, 110, 116, 101, 110, 116])))) [] 1102 (((Cnd.p (true = true)).a Cnd.t).a (((Cnd.p (true = true)).a Cnd.t).a (((Cnd.p (true = true)).a Cnd.t).a (((Cnd.p (true = true)).a ((Cnd.p (AV.v (Value.int IntKind.i64 (Int.ofNat 200)) = AV.v (Value.int IntKind.i64 (Int.ofNat 200)))).a Cnd.t)).a (((Cnd.p (true = true)).a Cnd.t).a (((Cnd.p (true = true)).a ((Cnd.p (AV.v (Value.int IntKind.i64 (Int.ofNat 204)) = AV.v (Value.int IntKind.i64 (Int.ofNat 204)))).a Cnd.t)).a (((Cnd.p (true = true)).a Cnd.t).a (((Cnd.p (true = true)).a ((Cnd.p (AV.v (Value.string (ByteArray.mk (Array.mk [78, 111, 32, 67, 111, 110, 116, 101, 110, 116]))) = AV.v (Value.string (ByteArray.mk (Array.mk [78, 111, 32, 67, 111, 110, 116, 101, 110, 116]))))).a Cnd.t)).a Cnd.t))))))))) (VT.ite (Int.ofNat 400 == st) (VT.leaf (AV.v (Value.string (ByteArray.mk (Array.mk [66, 97, 100, 32, 82, 101, 113, 117, 101, 115, 116])))) [] 1102 (((Cnd.p (true = true)).a Cnd.t).a (((Cnd.p (true = true)).a Cnd.t).a (((Cnd.p (true = true)).a Cnd.t).a (((Cnd.p (true = true)).a ((Cnd.p (AV.v (Value.int IntKind.i64 (Int.ofNat 200)) = AV.v (Value.int IntKind.i64 (Int.ofNat 200)))).a Cnd.t)).a (((Cnd.p (true = true)).a Cnd.t).a (((Cnd.p (true = true)).a ((Cnd.p (AV.v (Value.int IntKind.i64 (Int.ofNat 204)) = AV.v (Value.int IntKind.i64 (Int.ofNat 204)))).a Cnd.t)).a (((Cnd.p (true = true)).a Cnd.t).a (((Cnd.p (true = true)).a ((Cnd.p (AV.v (Value.int IntKind.i64 (Int.ofNat 400)) = AV.v (Value.int IntKind.i64 (Int.ofNat 400)))).a Cnd.t)).a (((Cnd.p (true = true)).a Cnd.t).a (((Cnd.p (true = true)).a ((Cnd.p (AV.v (Value.string (ByteArray.mk (Array.mk [66, 97, 100, 32, 82, 101, 113, 117, 101, 115, 116]))) = AV.v (Value.string (ByteArray.mk (Array.mk [66, 97, 100, 32, 82, 101, 113, 117, 101, 115, 116]))))).a Cnd.t)).a Cnd.t))))))))))) (VT.ite (Int.ofNat 401 == st) (VT.leaf (AV.v (Value.string (ByteArray.mk (Array.mk [85, 110, 97, 117, 116, 104, 111, 114, 105, 122, 101, 100])))) [] 1102 (((Cnd.p (true = true)).a Cnd.t).a (((Cnd.p (true = true)).a Cnd.t).a (((Cnd.p (true = true)).a Cnd.t).a (((Cnd.p (true = true)).a ((Cnd.p (AV.v (Value.int IntKind.i64 (Int.ofNat 200)) = AV.v (Value.int IntKind.i64 (Int.ofNat 200)))).a Cnd.t)).a (((Cnd.p (true = true)).a Cnd.t).a (((Cnd.p (true = true)).a ((Cnd.p (AV.v (Value.int IntKind.i64 (Int.ofNat 204)) = AV.v (Value.int IntKind.i64 (Int.ofNat 204)))).a Cnd.t)).a (((Cnd.p (true = true)).a Cnd.t).a (((Cnd.p (true = true)).a ((Cnd.p (AV.v (Value.int IntKind.i64 (Int.ofNat 400)) = AV.v (Value.int IntKind.i64 (Int.ofNat 400)))).a Cnd.t)).a (((Cnd.p (true = true)).a Cnd.t).a (((Cnd.p (true = true)).a ((Cnd.p (AV.v (Value.int IntKind.i64 (Int.ofNat 401)) = AV.v (Value.int IntKind.i64 (Int.ofNat 401)))).a Cnd.t)).a (((Cnd.p (true = true)).a Cnd.t).a (((Cnd.p (true = true)).a ((Cnd.p (AV.v (Value.string (ByteArray.mk (Array.mk [85, 110, 97, 117, 116, 104, 111, 114, 105, 122, 101, 100]))) = AV.v (Value.string (ByteArray.mk (Array.mk [85, 110, 97, 117, 116, 104, 111, 114, 105, 122, 101, 100]))))).a Cnd.t)).a Cnd.t))))))))))))) (VT.ite (Int.ofNat 404 == st) (VT.leaf (AV.v (Value.string (ByteArray.mk (Array.mk [78, 111, 116, 32, 70, 111, 117, 110, 100])))) [] 1102 (((Cnd.p (true = true)).a Cnd.t).a (((Cnd.p (true = true)).a Cnd.t).a (((Cnd.p (true = true)).a Cnd.t).a (((Cnd.p (true = true)).a ((Cnd.p (AV.v (Value.int IntKind.i64 (Int.ofNat 200)) = AV.v (Value.int IntKind.i64 (Int.ofNat 200)))).a Cnd.t)).a (((Cnd.p (true = true)).a Cnd.t).a (((Cnd.p (true = true)).a ((Cnd.p (AV.v (Value.int IntKind.i64 (Int.ofNat 204)) = AV.v (Value.int IntKind.i64 (Int.ofNat 204)))).a Cnd.t)).a (((Cnd.p (true = true)).a Cnd.t).a (((Cnd.p (true = true)).a ((Cnd.p (AV.v (Value.int IntKind.i64 (Int.ofNat 400)) = AV.v (Value.int IntKind.i64 (Int.ofNat 400)))).a Cnd.t)).a (((Cnd.p (true = true)).a Cnd.t).a (((Cnd.p (true = true)).a ((Cnd.p (AV.v (Value.int IntKind.i64 (Int.ofNat 401)) = AV.v (Value.int IntKind.i64 (Int.ofNat 401)))).a Cnd.t)).a (((Cnd.p (true = true)).a Cnd.t).a (((Cnd.p (true = true)).a ((Cnd.p (AV.v (Value.int IntKind.i64 (Int.ofNat 404)) = AV.v (Value.int IntKind.i64 (Int.ofNat 404)))).a Cnd.t)).a (((Cnd.p (true = true)).a Cnd.t).a (((Cnd.p (true = true)).a ((Cnd.p (AV.v (Value.string (ByteArray.mk (Array.mk [78, 111, 116, 32, 70, 111, 117, 110, 100]))) = AV.v (Value.string (ByteArray.mk (Array.mk [78, 111, 116, 32, 70, 111, 117, 110, 100]))))).a Cnd.t)).a Cnd.t))))))))))))))) (VT.ite (Int.ofNat 413 == st) (VT.leaf (AV.v (Value.string (ByteArray.mk (Array.mk [67, 111, 110, 116, 101, 110, 116, 32, 84, 111, 111, 32, 76, 97, 114, 103, 101])))) [] 1102 (((Cnd.p (true = true)).a Cnd.t).a (((Cnd.p (true = true)).a Cnd.t).a (((Cnd.p (true = true)).a Cnd.t).a (((Cnd.p (true = true)).a ((Cnd.p (AV.v (Value.int IntKind.i64 (Int.ofNat 200)) = AV.v (Value.int IntKind.i64 (Int.ofNat 200)))).a Cnd.t)).a (((Cnd.p (true = true)).a Cnd.t).a (((Cnd.p (true = true)).a ((Cnd.p (AV.v (Value.int IntKind.i64 (Int.ofNat 204)) = AV.v (Value.int IntKind.i64 (Int.ofNat 204)))).a Cnd.t)).a (((Cnd.p (true = true)).a Cnd.t).a (((Cnd.p (true = true)).a ((Cnd.p (AV.v (Value.int IntKind.i64 (Int.ofNat 400)) = AV.v (Value.int IntKind.i64 (Int.ofNat 400)))).a Cnd.t)).a (((Cnd.p (true = true)).a Cnd.t).a (((Cnd.p (true = true)).a ((Cnd.p (AV.v (Value.int IntKind.i64 (Int.ofNat 401)) = AV.v (Value.int IntKind.i64 (Int.ofNat 401)))).a Cnd.t)).a (((Cnd.p (true = true)).a Cnd.t).a (((Cnd.p (true = true)).a ((Cnd.p (AV.v (Value.int IntKind.i64 (Int.ofNat 404)) = AV.v (Value.int IntKind.i64 (Int.ofNat 404)))).a Cnd.t)).a (((Cnd.p (true = true)).a Cnd.t).a (((Cnd.p (true = true)).a ((Cnd.p (AV.v (Value.int IntKind.i64 (Int.ofNat 413)) = AV.v (Value.int IntKind.i64 (Int.ofNat 413)))).a Cnd.t)).a (((Cnd.p (true = true)).a Cnd.t).a (((Cnd.p (true = true)).a ((Cnd.p (AV.v (Value.string (ByteArray.mk (Array.mk [67, 111, 110, 116, 101, 110, 116, 32, 84, 111, 111, 32, 76, 97, 114, 103, 101]))) = AV.v (Value.string (ByteArray.mk (Array.mk [67, 111, 110, 116, 101, 110, 116, 32, 84, 111, 111, 32, 76, 97, 114, 103, 101]))))).a Cnd.t)).a Cnd.t))))))))))))))))) (VT.leaf (AV.v (Value.string (ByteArray.mk (Array.mk [])))) [] 1102 (((Cnd.p (true = true)).a Cnd.t).a (((Cnd.p (true = true)).a Cnd.t).a (((Cnd.p (true = true)).a Cnd.t).a (((Cnd.p (true = true)).a ((Cnd.p (AV.v (Value.int IntKind.i64 (Int.ofNat 200)) = AV.v (Value.int IntKind.i64 (Int.ofNat 200)))).a Cnd.t)).a (((Cnd.p (true = true)).a Cnd.t).a (((Cnd.p (true = true)).a ((Cnd.p (AV.v (Value.int IntKind.i64 (Int.ofNat 204)) = AV.v (Value.int IntKind.i64 (Int.ofNat 204)))).a Cnd.t)).a (((Cnd.p (true = true)).a Cnd.t).a (((Cnd.p (true = true)).a ((Cnd.p (AV.v (Value.int IntKind.i64 (Int.ofNat 400)) = AV.v (Value.int IntKind.i64 (Int.ofNat 400)))).a Cnd.t)).a (((Cnd.p (true = true)).a Cnd.t).a (((Cnd.p (true = true)).a ((Cnd.p (AV.v (Value.int IntKind.i64 (Int.ofNat 401)) = AV.v (Value.int IntKind.i64 (Int.ofNat 401)))).a Cnd.t)).a (((Cnd.p (true = true)).a Cnd.t).a (((Cnd.p (true = true)).a ((Cnd.p (AV.v (Value.int IntKind.i64 (Int.ofNat 404)) = AV.v (Value.int IntKind.i64 (Int.ofNat 404)))).a Cnd.t)).a (((Cnd.p (true = true)).a Cnd.t).a (((Cnd.p (true = true)).a ((Cnd.p (AV.v (Value.int IntKind.i64 (Int.ofNat 413)) = AV.v (Value.int IntKind.i64 (Int.ofNat 413)))).a Cnd.t)).a Cnd.t)))))))))))))))))))) := by kernel_rfl
def hRp (b : Bool) (l1 l3 j res : ByteArray) (nm : Nat) : ClaimT := hintL [(fRespond, 1, 2, h0), (fRespond, 1, 3, h0), (fRespond, 1, 6, h0v (sv l1)), (fRespond, 1, 10, h0v (sv l3)), (fRespond, 2, 1, hv (.lit b)), (fRespond, 4, 1, hv (sv j)), (fRespond, 4, 2, h0), (fRespond, 4, 4, h0v (sv res)), (fRespond, 4, 5, ho nm (rB1 res.data.toList))]
theorem oRp_eq (W : World) (st : Int) (body l1 l3 j res : ByteArray) (F : HP) : wRun [(39, cItoa), (fReason, cRe), (40, cJoin)] (hRp false l1 l3 j res 1101) [] W fRespond [iv st, sv body] [] [1100, 1101, 1102, 1103, 1104, 1105] F = VT.leaf (AV.slice 1101 0 res.size 1 (Cp.lo res.size)) [some (AO.cells [AV.v (Value.string l1), AV.v (Value.string (ByteArray.mk (Array.mk [67, 111, 110, 116, 101, 110, 116, 45, 84, 121, 112, 101, 58, 32, 97, 112, 112, 108, 105, 99, 97, 116, 105, 111, 110, 47, 106, 115, 111, 110]))), AV.v (Value.string l3)] 18), some (AO.cells (rowV encB res.data.toList) 11), none, none, none, none] 1102 (((Cnd.p (Int.negSucc 9223372036854775807 ≤ st ∧ st ≤ Int.ofNat 9223372036854775807)).a Cnd.t).a (((Cnd.p (9 + (itoaB st).size ≤ 9223372036854775807)).a Cnd.t).a (((Cnd.p ((ByteArray.mk (Array.mk [72, 84, 84, 80, 47, 49, 46, 49, 32]) ++ itoaB st).size + 1 ≤ 9223372036854775807)).a Cnd.t).a (((Cnd.p True).a ((Cnd.p (VW [AV.v (Value.int IntKind.i64 st)] [AV.v (Value.int IntKind.i64 st)])).a Cnd.t)).a (((Cnd.p ((ByteArray.mk (Array.mk [72, 84, 84, 80, 47, 49, 46, 49, 32]) ++ itoaB st ++ ByteArray.mk (Array.mk [32])).size + (reasonB st).size ≤ 9223372036854775807)).a ((Cnd.p (Wk (AV.v (Value.string (ByteArray.mk (Array.mk [72, 84, 84, 80, 47, 49, 46, 49, 32]) ++ itoaB st ++ ByteArray.mk (Array.mk [32]) ++ reasonB st))) (AV.v (Value.string l1)))).a Cnd.t)).a (((Cnd.p (Int.negSucc 9223372036854775807 ≤ ↑body.size ∧ ↑body.size ≤ Int.ofNat 9223372036854775807)).a Cnd.t).a (((Cnd.p (16 + (itoaB ↑body.size).size ≤ 9223372036854775807)).a ((Cnd.p (Wk (AV.v (Value.string (ByteArray.mk (Array.mk [67, 111, 110, 116, 101, 110, 116, 45, 76, 101, 110, 103, 116, 104, 58, 32]) ++ itoaB ↑body.size))) (AV.v (Value.string l3)))).a Cnd.t)).a (((Cnd.p (Wk (AV.v (Value.bool (st == Int.ofNat 401))) (AV.lit false))).a Cnd.t).a (((Cnd.p (1 = 1 ∧ [AV.v (Value.string l1), AV.v (Value.string (ByteArray.mk (Array.mk [67, 111, 110, 116, 101, 110, 116, 45, 84, 121, 112, 101, 58, 32, 97, 112, 112, 108, 105, 99, 97, 116, 105, 111, 110, 47, 106, 115, 111, 110]))), AV.v (Value.string l3)] = [AV.v (Value.string l1), AV.v (Value.string (ByteArray.mk (Array.mk [67, 111, 110, 116, 101, 110, 116, 45, 84, 121, 112, 101, 58, 32, 97, 112, 112, 108, 105, 99, 97, 116, 105, 111, 110, 47, 106, 115, 111, 110]))), AV.v (Value.string l3)] ∧ 3 = 3)).a ((Cnd.p (3 ≤ 140737488355328 ∧ (Lib.join [l1.data.toList, [67, 111, 110, 116, 101, 110, 116, 45, 84, 121, 112, 101, 58, 32, 97, 112, 112, 108, 105, 99, 97, 116, 105, 111, 110, 47, 106, 115, 111, 110], l3.data.toList] [13, 10]).length ≤ 140737488355328)).a ((Cnd.p (Wk (AV.v (Value.string (joinB [l1, ByteArray.mk (Array.mk [67, 111, 110, 116, 101, 110, 116, 45, 84, 121, 112, 101, 58, 32, 97, 112, 112, 108, 105, 99, 97, 116, 105, 111, 110, 47, 106, 115, 111, 110]), l3] (ByteArray.mk (Array.mk [13, 10]))))) (AV.v (Value.string j)))).a Cnd.t))).a (((Cnd.p (j.size + 4 ≤ 9223372036854775807)).a Cnd.t).a (((Cnd.p ((j ++ ByteArray.mk (Array.mk [13, 10, 13, 10])).size + body.size ≤ 9223372036854775807)).a ((Cnd.p (Wk (AV.v (Value.string (j ++ ByteArray.mk (Array.mk [13, 10, 13, 10]) ++ body))) (AV.v (Value.string res)))).a Cnd.t)).a (((Cnd.p (OW (AO.cells (vmap (List.map (fun b => Value.int IntKind.u8 ↑b.toNat) res.data.toList)) 11) (AO.cells (rowV encB res.data.toList) 11))).a Cnd.t).a Cnd.t)))))))))))) := by kernel_rfl
theorem oRp4_eq (W : World) (st : Int) (body l1 l3 j res : ByteArray) (F : HP) : wRun [(39, cItoa), (fReason, cRe), (40, cJoin)] (hRp true l1 l3 j res 1103) [] W fRespond [iv st, sv body] [] [1100, 1101, 1102, 1103, 1104, 1105] F = VT.leaf (AV.slice 1103 0 res.size 1 (Cp.lo res.size)) [some (AO.cells [AV.v (Value.string l1), AV.v (Value.string (ByteArray.mk (Array.mk [67, 111, 110, 116, 101, 110, 116, 45, 84, 121, 112, 101, 58, 32, 97, 112, 112, 108, 105, 99, 97, 116, 105, 111, 110, 47, 106, 115, 111, 110]))), AV.v (Value.string l3)] 18), some (AO.cells [AV.v (Value.string (ByteArray.mk (Array.mk [87, 87, 87, 45, 65, 117, 116, 104, 101, 110, 116, 105, 99, 97, 116, 101, 58, 32, 66, 97, 115, 105, 99, 32, 114, 101, 97, 108, 109, 61, 34, 119, 97, 114, 114, 101, 110, 34])))] 18), some (AO.cells [AV.v (Value.string l1), AV.v (Value.string (ByteArray.mk (Array.mk [67, 111, 110, 116, 101, 110, 116, 45, 84, 121, 112, 101, 58, 32, 97, 112, 112, 108, 105, 99, 97, 116, 105, 111, 110, 47, 106, 115, 111, 110]))), AV.v (Value.string l3), AV.v (Value.string (ByteArray.mk (Array.mk [87, 87, 87, 45, 65, 117, 116, 104, 101, 110, 116, 105, 99, 97, 116, 101, 58, 32, 66, 97, 115, 105, 99, 32, 114, 101, 97, 108, 109, 61, 34, 119, 97, 114, 114, 101, 110, 34])))] 18), some (AO.cells (rowV encB res.data.toList) 11), none, none] 1104 (((Cnd.p (Int.negSucc 9223372036854775807 ≤ st ∧ st ≤ Int.ofNat 9223372036854775807)).a Cnd.t).a (((Cnd.p (9 + (itoaB st).size ≤ 9223372036854775807)).a Cnd.t).a (((Cnd.p ((ByteArray.mk (Array.mk [72, 84, 84, 80, 47, 49, 46, 49, 32]) ++ itoaB st).size + 1 ≤ 9223372036854775807)).a Cnd.t).a (((Cnd.p True).a ((Cnd.p (VW [AV.v (Value.int IntKind.i64 st)] [AV.v (Value.int IntKind.i64 st)])).a Cnd.t)).a (((Cnd.p ((ByteArray.mk (Array.mk [72, 84, 84, 80, 47, 49, 46, 49, 32]) ++ itoaB st ++ ByteArray.mk (Array.mk [32])).size + (reasonB st).size ≤ 9223372036854775807)).a ((Cnd.p (Wk (AV.v (Value.string (ByteArray.mk (Array.mk [72, 84, 84, 80, 47, 49, 46, 49, 32]) ++ itoaB st ++ ByteArray.mk (Array.mk [32]) ++ reasonB st))) (AV.v (Value.string l1)))).a Cnd.t)).a (((Cnd.p (Int.negSucc 9223372036854775807 ≤ ↑body.size ∧ ↑body.size ≤ Int.ofNat 9223372036854775807)).a Cnd.t).a (((Cnd.p (16 + (itoaB ↑body.size).size ≤ 9223372036854775807)).a ((Cnd.p (Wk (AV.v (Value.string (ByteArray.mk (Array.mk [67, 111, 110, 116, 101, 110, 116, 45, 76, 101, 110, 103, 116, 104, 58, 32]) ++ itoaB ↑body.size))) (AV.v (Value.string l3)))).a Cnd.t)).a (((Cnd.p (Wk (AV.v (Value.bool (st == Int.ofNat 401))) (AV.lit true))).a Cnd.t).a (((Cnd.p (true = true)).a ((Cnd.p (true = true)).a ((Cnd.p (true = true)).a ((Cnd.p (true = true)).a ((Cnd.p (true = true)).a ((Cnd.p (true = true)).a ((Cnd.p (true = true)).a ((Cnd.p (true = true)).a ((Cnd.p (true = true)).a Cnd.t))))))))).a (((Cnd.p (1 = 1 ∧ [AV.v (Value.string l1), AV.v (Value.string (ByteArray.mk (Array.mk [67, 111, 110, 116, 101, 110, 116, 45, 84, 121, 112, 101, 58, 32, 97, 112, 112, 108, 105, 99, 97, 116, 105, 111, 110, 47, 106, 115, 111, 110]))), AV.v (Value.string l3), AV.v (Value.string (ByteArray.mk (Array.mk [87, 87, 87, 45, 65, 117, 116, 104, 101, 110, 116, 105, 99, 97, 116, 101, 58, 32, 66, 97, 115, 105, 99, 32, 114, 101, 97, 108, 109, 61, 34, 119, 97, 114, 114, 101, 110, 34])))] = [AV.v (Value.string l1), AV.v (Value.string (ByteArray.mk (Array.mk [67, 111, 110, 116, 101, 110, 116, 45, 84, 121, 112, 101, 58, 32, 97, 112, 112, 108, 105, 99, 97, 116, 105, 111, 110, 47, 106, 115, 111, 110]))), AV.v (Value.string l3), AV.v (Value.string (ByteArray.mk (Array.mk [87, 87, 87, 45, 65, 117, 116, 104, 101, 110, 116, 105, 99, 97, 116, 101, 58, 32, 66, 97, 115, 105, 99, 32, 114, 101, 97, 108, 109, 61, 34, 119, 97, 114, 114, 101, 110, 34])))] ∧ 4 = 4)).a ((Cnd.p (4 ≤ 140737488355328 ∧ (Lib.join [l1.data.toList, [67, 111, 110, 116, 101, 110, 116, 45, 84, 121, 112, 101, 58, 32, 97, 112, 112, 108, 105, 99, 97, 116, 105, 111, 110, 47, 106, 115, 111, 110], l3.data.toList, [87, 87, 87, 45, 65, 117, 116, 104, 101, 110, 116, 105, 99, 97, 116, 101, 58, 32, 66, 97, 115, 105, 99, 32, 114, 101, 97, 108, 109, 61, 34, 119, 97, 114, 114, 101, 110, 34]] [13, 10]).length ≤ 140737488355328)).a ((Cnd.p (Wk (AV.v (Value.string (joinB [l1, ByteArray.mk (Array.mk [67, 111, 110, 116, 101, 110, 116, 45, 84, 121, 112, 101, 58, 32, 97, 112, 112, 108, 105, 99, 97, 116, 105, 111, 110, 47, 106, 115, 111, 110]), l3, ByteArray.mk (Array.mk [87, 87, 87, 45, 65, 117, 116, 104, 101, 110, 116, 105, 99, 97, 116, 101, 58, 32, 66, 97, 115, 105, 99, 32, 114, 101, 97, 108, 109, 61, 34, 119, 97, 114, 114, 101, 110, 34])] (ByteArray.mk (Array.mk [13, 10]))))) (AV.v (Value.string j)))).a Cnd.t))).a (((Cnd.p (j.size + 4 ≤ 9223372036854775807)).a Cnd.t).a (((Cnd.p ((j ++ ByteArray.mk (Array.mk [13, 10, 13, 10])).size + body.size ≤ 9223372036854775807)).a ((Cnd.p (Wk (AV.v (Value.string (j ++ ByteArray.mk (Array.mk [13, 10, 13, 10]) ++ body))) (AV.v (Value.string res)))).a Cnd.t)).a (((Cnd.p (OW (AO.cells (vmap (List.map (fun b => Value.int IntKind.u8 ↑b.toNat) res.data.toList)) 11) (AO.cells (rowV encB res.data.toList) 11))).a Cnd.t).a Cnd.t))))))))))))) := by kernel_rfl
def hRr (b : Bool) (res : ByteArray) : ClaimT := hintL [(fRRespond, 1, 2, h0), (fRRespond, 1, 3, h0), (fRRespond, 1, 6, h0), (fRRespond, 1, 7, h0), (fRRespond, 1, 11, h0), (fRRespond, 1, 12, h0), (fRRespond, 2, 1, hv (.lit b)), (fRRespond, 3, 1, h0), (fRRespond, 4, 1, h0), (fRRespond, 4, 3, h0v (sv res))]
theorem oRq_eq (st : Int) (body res : ByteArray) (F : HP) : wRun [(fDigits, cDg), (fRReason, cRe)] (hRr false res) [] default fRRespond [iv st, sv body] [] [] F = VT.leaf (AV.v (Value.string res)) [] 1100 (((Cnd.p (Int.ofNat 0 ≤ st ∧ st < Int.ofNat 9223372036854775807)).a ((Cnd.p (VW [AV.v (Value.int IntKind.i64 st)] [AV.v (Value.int IntKind.i64 st)])).a Cnd.t)).a (((Cnd.p (9 + (itoaB st).size ≤ 9223372036854775807)).a Cnd.t).a (((Cnd.p ((ByteArray.mk (Array.mk [72, 84, 84, 80, 47, 49, 46, 49, 32]) ++ itoaB st).size + 1 ≤ 9223372036854775807)).a Cnd.t).a (((Cnd.p True).a ((Cnd.p (VW [AV.v (Value.int IntKind.i64 st)] [AV.v (Value.int IntKind.i64 st)])).a Cnd.t)).a (((Cnd.p ((ByteArray.mk (Array.mk [72, 84, 84, 80, 47, 49, 46, 49, 32]) ++ itoaB st ++ ByteArray.mk (Array.mk [32])).size + (reasonB st).size ≤ 9223372036854775807)).a Cnd.t).a (((Cnd.p ((ByteArray.mk (Array.mk [72, 84, 84, 80, 47, 49, 46, 49, 32]) ++ itoaB st ++ ByteArray.mk (Array.mk [32]) ++ reasonB st).size + 50 ≤ 9223372036854775807)).a Cnd.t).a (((Cnd.p (Int.ofNat 0 ≤ ↑body.size ∧ ↑body.size < Int.ofNat 9223372036854775807)).a ((Cnd.p (VW [AV.v (Value.int IntKind.i64 ↑body.size)] [AV.v (Value.int IntKind.i64 ↑body.size)])).a Cnd.t)).a (((Cnd.p ((ByteArray.mk (Array.mk [72, 84, 84, 80, 47, 49, 46, 49, 32]) ++ itoaB st ++ ByteArray.mk (Array.mk [32]) ++ reasonB st ++ ByteArray.mk (Array.mk [13, 10, 67, 111, 110, 116, 101, 110, 116, 45, 84, 121, 112, 101, 58, 32, 97, 112, 112, 108, 105, 99, 97, 116, 105, 111, 110, 47, 106, 115, 111, 110, 13, 10, 67, 111, 110, 116, 101, 110, 116, 45, 76, 101, 110, 103, 116, 104, 58, 32])).size + (itoaB ↑body.size).size ≤ 9223372036854775807)).a Cnd.t).a (((Cnd.p ((ByteArray.mk (Array.mk [72, 84, 84, 80, 47, 49, 46, 49, 32]) ++ itoaB st ++ ByteArray.mk (Array.mk [32]) ++ reasonB st ++ ByteArray.mk (Array.mk [13, 10, 67, 111, 110, 116, 101, 110, 116, 45, 84, 121, 112, 101, 58, 32, 97, 112, 112, 108, 105, 99, 97, 116, 105, 111, 110, 47, 106, 115, 111, 110, 13, 10, 67, 111, 110, 116, 101, 110, 116, 45, 76, 101, 110, 103, 116, 104, 58, 32]) ++ itoaB ↑body.size).size + 2 ≤ 9223372036854775807)).a Cnd.t).a (((Cnd.p (Wk (AV.v (Value.bool (st == Int.ofNat 401))) (AV.lit false))).a Cnd.t).a (((Cnd.p ((ByteArray.mk (Array.mk [72, 84, 84, 80, 47, 49, 46, 49, 32]) ++ itoaB st ++ ByteArray.mk (Array.mk [32]) ++ reasonB st ++ ByteArray.mk (Array.mk [13, 10, 67, 111, 110, 116, 101, 110, 116, 45, 84, 121, 112, 101, 58, 32, 97, 112, 112, 108, 105, 99, 97, 116, 105, 111, 110, 47, 106, 115, 111, 110, 13, 10, 67, 111, 110, 116, 101, 110, 116, 45, 76, 101, 110, 103, 116, 104, 58, 32]) ++ itoaB ↑body.size ++ ByteArray.mk (Array.mk [13, 10])).size + 2 ≤ 9223372036854775807)).a Cnd.t).a (((Cnd.p ((ByteArray.mk (Array.mk [72, 84, 84, 80, 47, 49, 46, 49, 32]) ++ itoaB st ++ ByteArray.mk (Array.mk [32]) ++ reasonB st ++ ByteArray.mk (Array.mk [13, 10, 67, 111, 110, 116, 101, 110, 116, 45, 84, 121, 112, 101, 58, 32, 97, 112, 112, 108, 105, 99, 97, 116, 105, 111, 110, 47, 106, 115, 111, 110, 13, 10, 67, 111, 110, 116, 101, 110, 116, 45, 76, 101, 110, 103, 116, 104, 58, 32]) ++ itoaB ↑body.size ++ ByteArray.mk (Array.mk [13, 10]) ++ ByteArray.mk (Array.mk [13, 10])).size + body.size ≤ 9223372036854775807)).a ((Cnd.p (Wk (AV.v (Value.string (ByteArray.mk (Array.mk [72, 84, 84, 80, 47, 49, 46, 49, 32]) ++ itoaB st ++ ByteArray.mk (Array.mk [32]) ++ reasonB st ++ ByteArray.mk (Array.mk [13, 10, 67, 111, 110, 116, 101, 110, 116, 45, 84, 121, 112, 101, 58, 32, 97, 112, 112, 108, 105, 99, 97, 116, 105, 111, 110, 47, 106, 115, 111, 110, 13, 10, 67, 111, 110, 116, 101, 110, 116, 45, 76, 101, 110, 103, 116, 104, 58, 32]) ++ itoaB ↑body.size ++ ByteArray.mk (Array.mk [13, 10]) ++ ByteArray.mk (Array.mk [13, 10]) ++ body))) (AV.v (Value.string res)))).a Cnd.t)).a Cnd.t)))))))))))) := by kernel_rfl
theorem oRq4_eq (st : Int) (body res : ByteArray) (F : HP) : wRun [(fDigits, cDg), (fRReason, cRe)] (hRr true res) [] default fRRespond [iv st, sv body] [] [] F = VT.leaf (AV.v (Value.string res)) [] 1100 (((Cnd.p (Int.ofNat 0 ≤ st ∧ st < Int.ofNat 9223372036854775807)).a ((Cnd.p (VW [AV.v (Value.int IntKind.i64 st)] [AV.v (Value.int IntKind.i64 st)])).a Cnd.t)).a (((Cnd.p (9 + (itoaB st).size ≤ 9223372036854775807)).a Cnd.t).a (((Cnd.p ((ByteArray.mk (Array.mk [72, 84, 84, 80, 47, 49, 46, 49, 32]) ++ itoaB st).size + 1 ≤ 9223372036854775807)).a Cnd.t).a (((Cnd.p True).a ((Cnd.p (VW [AV.v (Value.int IntKind.i64 st)] [AV.v (Value.int IntKind.i64 st)])).a Cnd.t)).a (((Cnd.p ((ByteArray.mk (Array.mk [72, 84, 84, 80, 47, 49, 46, 49, 32]) ++ itoaB st ++ ByteArray.mk (Array.mk [32])).size + (reasonB st).size ≤ 9223372036854775807)).a Cnd.t).a (((Cnd.p ((ByteArray.mk (Array.mk [72, 84, 84, 80, 47, 49, 46, 49, 32]) ++ itoaB st ++ ByteArray.mk (Array.mk [32]) ++ reasonB st).size + 50 ≤ 9223372036854775807)).a Cnd.t).a (((Cnd.p (Int.ofNat 0 ≤ ↑body.size ∧ ↑body.size < Int.ofNat 9223372036854775807)).a ((Cnd.p (VW [AV.v (Value.int IntKind.i64 ↑body.size)] [AV.v (Value.int IntKind.i64 ↑body.size)])).a Cnd.t)).a (((Cnd.p ((ByteArray.mk (Array.mk [72, 84, 84, 80, 47, 49, 46, 49, 32]) ++ itoaB st ++ ByteArray.mk (Array.mk [32]) ++ reasonB st ++ ByteArray.mk (Array.mk [13, 10, 67, 111, 110, 116, 101, 110, 116, 45, 84, 121, 112, 101, 58, 32, 97, 112, 112, 108, 105, 99, 97, 116, 105, 111, 110, 47, 106, 115, 111, 110, 13, 10, 67, 111, 110, 116, 101, 110, 116, 45, 76, 101, 110, 103, 116, 104, 58, 32])).size + (itoaB ↑body.size).size ≤ 9223372036854775807)).a Cnd.t).a (((Cnd.p ((ByteArray.mk (Array.mk [72, 84, 84, 80, 47, 49, 46, 49, 32]) ++ itoaB st ++ ByteArray.mk (Array.mk [32]) ++ reasonB st ++ ByteArray.mk (Array.mk [13, 10, 67, 111, 110, 116, 101, 110, 116, 45, 84, 121, 112, 101, 58, 32, 97, 112, 112, 108, 105, 99, 97, 116, 105, 111, 110, 47, 106, 115, 111, 110, 13, 10, 67, 111, 110, 116, 101, 110, 116, 45, 76, 101, 110, 103, 116, 104, 58, 32]) ++ itoaB ↑body.size).size + 2 ≤ 9223372036854775807)).a Cnd.t).a (((Cnd.p (Wk (AV.v (Value.bool (st == Int.ofNat 401))) (AV.lit true))).a Cnd.t).a (((Cnd.p ((ByteArray.mk (Array.mk [72, 84, 84, 80, 47, 49, 46, 49, 32]) ++ itoaB st ++ ByteArray.mk (Array.mk [32]) ++ reasonB st ++ ByteArray.mk (Array.mk [13, 10, 67, 111, 110, 116, 101, 110, 116, 45, 84, 121, 112, 101, 58, 32, 97, 112, 112, 108, 105, 99, 97, 116, 105, 111, 110, 47, 106, 115, 111, 110, 13, 10, 67, 111, 110, 116, 101, 110, 116, 45, 76, 101, 110, 103, 116, 104, 58, 32]) ++ itoaB ↑body.size ++ ByteArray.mk (Array.mk [13, 10])).size + 40 ≤ 9223372036854775807)).a Cnd.t).a (((Cnd.p ((ByteArray.mk (Array.mk [72, 84, 84, 80, 47, 49, 46, 49, 32]) ++ itoaB st ++ ByteArray.mk (Array.mk [32]) ++ reasonB st ++ ByteArray.mk (Array.mk [13, 10, 67, 111, 110, 116, 101, 110, 116, 45, 84, 121, 112, 101, 58, 32, 97, 112, 112, 108, 105, 99, 97, 116, 105, 111, 110, 47, 106, 115, 111, 110, 13, 10, 67, 111, 110, 116, 101, 110, 116, 45, 76, 101, 110, 103, 116, 104, 58, 32]) ++ itoaB ↑body.size ++ ByteArray.mk (Array.mk [13, 10]) ++ ByteArray.mk (Array.mk [87, 87, 87, 45, 65, 117, 116, 104, 101, 110, 116, 105, 99, 97, 116, 101, 58, 32, 66, 97, 115, 105, 99, 32, 114, 101, 97, 108, 109, 61, 34, 119, 97, 114, 114, 101, 110, 34, 13, 10])).size + 2 ≤ 9223372036854775807)).a Cnd.t).a (((Cnd.p ((ByteArray.mk (Array.mk [72, 84, 84, 80, 47, 49, 46, 49, 32]) ++ itoaB st ++ ByteArray.mk (Array.mk [32]) ++ reasonB st ++ ByteArray.mk (Array.mk [13, 10, 67, 111, 110, 116, 101, 110, 116, 45, 84, 121, 112, 101, 58, 32, 97, 112, 112, 108, 105, 99, 97, 116, 105, 111, 110, 47, 106, 115, 111, 110, 13, 10, 67, 111, 110, 116, 101, 110, 116, 45, 76, 101, 110, 103, 116, 104, 58, 32]) ++ itoaB ↑body.size ++ ByteArray.mk (Array.mk [13, 10]) ++ ByteArray.mk (Array.mk [87, 87, 87, 45, 65, 117, 116, 104, 101, 110, 116, 105, 99, 97, 116, 101, 58, 32, 66, 97, 115, 105, 99, 32, 114, 101, 97, 108, 109, 61, 34, 119, 97, 114, 114, 101, 110, 34, 13, 10]) ++ ByteArray.mk (Array.mk [13, 10])).size + body.size ≤ 9223372036854775807)).a ((Cnd.p (Wk (AV.v (Value.string (ByteArray.mk (Array.mk [72, 84, 84, 80, 47, 49, 46, 49, 32]) ++ itoaB st ++ ByteArray.mk (Array.mk [32]) ++ reasonB st ++ ByteArray.mk (Array.mk [13, 10, 67, 111, 110, 116, 101, 110, 116, 45, 84, 121, 112, 101, 58, 32, 97, 112, 112, 108, 105, 99, 97, 116, 105, 111, 110, 47, 106, 115, 111, 110, 13, 10, 67, 111, 110, 116, 101, 110, 116, 45, 76, 101, 110, 103, 116, 104, 58, 32]) ++ itoaB ↑body.size ++ ByteArray.mk (Array.mk [13, 10]) ++ ByteArray.mk (Array.mk [87, 87, 87, 45, 65, 117, 116, 104, 101, 110, 116, 105, 99, 97, 116, 101, 58, 32, 66, 97, 115, 105, 99, 32, 114, 101, 97, 108, 109, 61, 34, 119, 97, 114, 114, 101, 110, 34, 13, 10]) ++ ByteArray.mk (Array.mk [13, 10]) ++ body))) (AV.v (Value.string res)))).a Cnd.t)).a Cnd.t))))))))))))) := by kernel_rfl
def cRpS (st : Int) (body res : ByteArray) (n : Nat) : List AV → Option (AP AV) := mkC gU (fun _ => True) (fun _ i => i) (fun _ => [iv st, sv body]) (fun _ => []) (fun _ => .leaf .ret [sB 1000 n] [(1000, rB1 res.data.toList)])
def cRqS (st : Int) (body res : ByteArray) : List AV → Option (AP AV) := mkC gU (fun _ => True) (fun _ i => i) (fun _ => [iv st, sv body]) (fun _ => []) (fun _ => .leaf .ret [sv res] [])
def hRL (a b : Bool) (res : ByteArray) : ClaimT := hintL [(fResponds, 1, 1, hv (.lit false)), (fResponds, 3, 4, hv (.lit false)), (fResponds, 5, 1, hv (.lit a)), (fResponds, 5, 4, hv (.lit b)), (fResponds, 5, 5, hv (.lit (a || b))), (fResponds, 7, 3, ht res), (fResponds, 7, 7, hv (bv true))]
theorem oRL1_eq (W : World) (st : Int) (body : ByteArray) (F : HP) : wRun [(fSpeaks, cSpk), (fReason, cRe), (fRReason, cRe)] (hRL true false default) [] W fResponds [iv st, sv body] [] [] F = VT.leaf (AV.v (Value.bool true)) [] 1100 (((Cnd.p True).a Cnd.t).a (((Cnd.p (Wk (AV.v (Value.bool false)) (AV.lit false))).a Cnd.t).a (((Cnd.p True).a ((Cnd.p (VW [AV.v (Value.int IntKind.i64 st)] [AV.v (Value.int IntKind.i64 st)])).a Cnd.t)).a (((Cnd.p True).a ((Cnd.p (VW [AV.v (Value.int IntKind.i64 st)] [AV.v (Value.int IntKind.i64 st)])).a Cnd.t)).a (((Cnd.p (Wk (AV.v (Value.bool !(reasonB st).toList == (reasonB st).toList)) (AV.lit false))).a Cnd.t).a (((Cnd.p (Wk (AV.v (Value.bool (decide (st < Int.ofNat 100)))) (AV.lit true))).a Cnd.t).a (((Cnd.p (Wk (AV.lit true) (AV.lit true))).a Cnd.t).a Cnd.t))))))) := by kernel_rfl
theorem oRL2_eq (W : World) (st : Int) (body : ByteArray) (F : HP) : wRun [(fSpeaks, cSpk), (fReason, cRe), (fRReason, cRe)] (hRL false true default) [] W fResponds [iv st, sv body] [] [] F = VT.leaf (AV.v (Value.bool true)) [] 1100 (((Cnd.p True).a Cnd.t).a (((Cnd.p (Wk (AV.v (Value.bool false)) (AV.lit false))).a Cnd.t).a (((Cnd.p True).a ((Cnd.p (VW [AV.v (Value.int IntKind.i64 st)] [AV.v (Value.int IntKind.i64 st)])).a Cnd.t)).a (((Cnd.p True).a ((Cnd.p (VW [AV.v (Value.int IntKind.i64 st)] [AV.v (Value.int IntKind.i64 st)])).a Cnd.t)).a (((Cnd.p (Wk (AV.v (Value.bool !(reasonB st).toList == (reasonB st).toList)) (AV.lit false))).a Cnd.t).a (((Cnd.p (Wk (AV.v (Value.bool (decide (st < Int.ofNat 100)))) (AV.lit false))).a Cnd.t).a (((Cnd.p (Wk (AV.v (Value.bool (decide (st > Int.ofNat 999)))) (AV.lit true))).a Cnd.t).a (((Cnd.p (Wk (AV.lit true) (AV.lit true))).a Cnd.t).a Cnd.t)))))))) := by kernel_rfl
theorem oRL3_eq (W : World) (st : Int) (body res : ByteArray) (n : Nat) (F : HP) : wRun [(fSpeaks, cSpk), (fReason, cRe), (fRReason, cRe), (fRespond, cRpS st body res n), (fRRespond, cRqS st body res)] (hRL false false res) [] W fResponds [iv st, sv body] [] [] F = VT.leaf (AV.v (Value.bool true)) [] 1101 (((Cnd.p True).a Cnd.t).a (((Cnd.p (Wk (AV.v (Value.bool false)) (AV.lit false))).a Cnd.t).a (((Cnd.p True).a ((Cnd.p (VW [AV.v (Value.int IntKind.i64 st)] [AV.v (Value.int IntKind.i64 st)])).a Cnd.t)).a (((Cnd.p True).a ((Cnd.p (VW [AV.v (Value.int IntKind.i64 st)] [AV.v (Value.int IntKind.i64 st)])).a Cnd.t)).a (((Cnd.p (Wk (AV.v (Value.bool !(reasonB st).toList == (reasonB st).toList)) (AV.lit false))).a Cnd.t).a (((Cnd.p (Wk (AV.v (Value.bool (decide (st < Int.ofNat 100)))) (AV.lit false))).a Cnd.t).a (((Cnd.p (Wk (AV.v (Value.bool (decide (st > Int.ofNat 999)))) (AV.lit false))).a Cnd.t).a (((Cnd.p (Wk (AV.lit false) (AV.lit false))).a Cnd.t).a (((Cnd.p True).a ((Cnd.p (VW [AV.v (Value.int IntKind.i64 st), AV.v (Value.string body)] [AV.v (Value.int IntKind.i64 st), AV.v (Value.string body)])).a Cnd.t)).a (((Cnd.p (0 + n ≤ (AV.rens (sgN (fun i => i) [1000] 1100) (rowV encB res.data.toList)).length ∧ List.take n (List.drop 0 (AV.rens (sgN (fun i => i) [1000] 1100) (rowV encB res.data.toList))) = vmap (List.map (fun b => Value.int IntKind.u8 ↑b.toNat) res.data.toList))).a Cnd.t).a (((Cnd.p True).a ((Cnd.p (VW [AV.v (Value.int IntKind.i64 st), AV.v (Value.string body)] [AV.v (Value.int IntKind.i64 st), AV.v (Value.string body)])).a Cnd.t)).a (((Cnd.p (Wk (AV.v (Value.bool (res.toList == res.toList))) (AV.v (Value.bool true)))).a Cnd.t).a Cnd.t)))))))))))) := by kernel_rfl
end
end Go.Proofs.YtpijbbobejeemaaGreatDoor.Htp

/- Http: digits, statuses, responses. -/
set_option linter.unusedVariables false
set_option linter.unusedSimpArgs false
set_option maxRecDepth 100000
namespace Go.Proofs.YtpijbbobejeemaaGreatDoor.Htp
open Go Go.RowKit Go.Proofs.YtpijbbobejeemaaGreatDoor.Eng Go.Proofs.YtpijbbobejeemaaGreatDoor.Kit
theorem gU_ro : ∀ args, RO (gU args) := fun _ => RO.ret _
theorem gI_ro : ∀ args, RO (gI args) := by
  intro args
  unfold gI
  split
  · exact RO.ret _
  · exact RO.fail _
theorem b1_txt (x : UInt8) : [AV.v (Value.int IntKind.u8 ↑x.toNat)] = txtV (b1 x) := rfl
def lastDigit (n : Nat) : UInt8 := UInt8.ofNat (48 + n % 10)
theorem dec_step {n : Nat} (h : 9 < n) (s : ByteArray) : tB (Lib.decDigits (n / 10)) ++ (b1 (lastDigit n) ++ s) = tB (Lib.decDigits n) ++ s := by
  apply ba_ext
  rw [ba_app, ba_app, ba_app, tB_data, tB_data]
  conv => rhs; rw [Lib.decDigits, dif_neg (by omega)]
  simp [b1, lastDigit]
theorem dec_last {n : Nat} (h : n ≤ 9) (s : ByteArray) : b1 (lastDigit n) ++ s = tB (Lib.decDigits n) ++ s := by
  apply ba_ext
  rw [ba_app, ba_app, tB_data]
  conv => rhs; rw [Lib.decDigits, dif_pos (by omega)]
  have : n % 10 = n := Nat.mod_eq_of_lt (by omega)
  simp [b1, lastDigit, this]
theorem itoaB_nat (n : Nat) : itoaB (n : Int) = tB (Lib.decDigits n) := by unfold itoaB; rw [Lib.itoa_nonneg]
theorem gtT {a b : Nat} (h : b < a) : decide (Int.ofNat a > Int.ofNat b) = true := decide_eq_true (by simp only [Int.ofNat_eq_natCast]; omega)
theorem gtF {a b : Nat} (h : a ≤ b) : decide (Int.ofNat a > Int.ofNat b) = false := decide_eq_false (by simp only [Int.ofNat_eq_natCast]; omega)
theorem itoa_size (n : Int) (h0 : -9223372036854775808 ≤ n) (h1 : n ≤ 9223372036854775807) : (itoaB n).size ≤ 21 := by
  unfold itoaB; rw [tB_size]; exact Lib.itoa_length_le n h0 h1
theorem d_loop (N : Nat) (hN : N < 9223372036854775807) :
    ∃ (k : Nat) (s : ByteArray), k ≤ 9 ∧ s.size ≤ 21 ∧ b1 (lastDigit k) ++ s = tB (Lib.decDigits N) ∧ LTri Tryz.prog default (loopN fDigits 2) (tms 0 23 (aD N (ByteArray.mk (Array.mk [])))) [] (.exit 0) (tms 0 23 (aD k s)) [] := by
  have key : ∀ (n : Nat) (s : ByteArray), n < 9223372036854775807 → tB (Lib.decDigits n) ++ s = tB (Lib.decDigits N) → ∃ (k : Nat) (t : ByteArray), k ≤ 9 ∧ tB (Lib.decDigits k) ++ t = tB (Lib.decDigits N) := by
    intro n
    induction n using Nat.strongRecOn with
    | _ n ih =>
      intro s hn h
      by_cases h9 : n ≤ 9
      · exact ⟨n, s, h9, h⟩
      · exact ih (n / 10) (by omega) (b1 (lastDigit n) ++ s) (by omega) (by rw [dec_step (by omega)]; exact h)
  have hsz : (tB (Lib.decDigits N)).size ≤ 21 := by rw [← itoaB_nat]; exact itoa_size _ (by omega) (by omega)
  have hst : ∀ (n : Nat) (s : ByteArray), tB (Lib.decDigits n) ++ s = tB (Lib.decDigits N) → s.size ≤ 21 := by
    intro n s h
    have := congrArg ByteArray.size h
    rw [ByteArray.size_append] at this
    omega
  -- the end is one for all states
  have uniq : ∀ (k k' : Nat) (t t' : ByteArray), k ≤ 9 → k' ≤ 9 → tB (Lib.decDigits k) ++ t = tB (Lib.decDigits N) → tB (Lib.decDigits k') ++ t' = tB (Lib.decDigits N) → k = k' ∧ t = t' := by
    intro k k' t t' hk hk' h h'
    rw [← dec_last hk] at h
    rw [← dec_last hk'] at h'
    have e := congrArg (fun b : ByteArray => b.data.toList) (h.trans h'.symm)
    simp only [ba_app, b1] at e
    have e2 := List.cons.inj (show lastDigit k :: t.data.toList = lastDigit k' :: t'.data.toList by simpa using e)
    refine ⟨?_, ba_ext e2.2⟩
    have e3 := congrArg UInt8.toNat e2.1
    unfold lastDigit at e3
    rw [UInt8.toNat_ofNat', UInt8.toNat_ofNat'] at e3
    omega
  obtain ⟨k, t, hk, ht⟩ := key N (ByteArray.mk (Array.mk [])) hN (ba_ext (by simp [tB_data]))
  refine ⟨k, t, hk, hst k t ht, by rw [dec_last hk]; exact ht, ?_⟩
  refine ltri_run (W := default) (g := fDigits) (b := loopN fDigits 2) (σ := {q : Nat × ByteArray // q.1 < 9223372036854775807 ∧ tB (Lib.decDigits q.1) ++ q.2 = tB (Lib.decDigits N)}) 23 (fun q => aD q.1.1 q.1.2) (fun _ => []) (.exit 0) _ [] (fun q => q.1.1) [] [0, 3] (by intro h; cases h) (fun _ => rfl) rfl ?_ ⟨(N, ByteArray.mk (Array.mk [])), hN, ba_ext (by simp [tB_data])⟩
  rintro ⟨⟨n, s⟩, hn, hI⟩
  simp only at hn hI
  simp only
  have hs := hst n s hI
  by_cases h9 : n ≤ 9
  · obtain ⟨rfl, rfl⟩ := uniq k n t s hk h9 ht hI
    refine ⟨[], hintL [(fDigits, 2, 1, hv (.lit false))], [], fun _ _ => noC, fun _ _ => noL, fun F => ?_⟩
    refine cast (congrArg (VAll _) (oDE_eq t k F).symm) ⟨⟨?_, rfl, .inr ⟨rfl, [], by kernel_rfl, by kernel_rfl, ⟨Wk.refl _, Wk.refl _, trivial⟩, trivial⟩⟩⟩
    simp only [Cnd.holds, and_true]
    exact wk_litE (gtF hk)
  · have e1 := gtT (a := n) (b := 9) (by omega)
    have m1 := w_tmod n 10
    have m2 := w_add (a := 48) (b := n % 10) (by omega)
    have m3 := w_u8 (48 + n % 10)
    have m4 := w_tdiv (n := n) (k := 10) (by omega)
    have hnext : tB (Lib.decDigits (n / 10)) ++ (b1 (lastDigit n) ++ s) = tB (Lib.decDigits N) := by rw [dec_step (by omega)]; exact hI
    have hlt : n / 10 < n := by omega
    have hlt2 : n / 10 < 9223372036854775807 := by omega
    have hx : lastDigit n = UInt8.ofNat (48 + n % 10) := rfl
    rw [← hx] at m3
    generalize lastDigit n = x at *
    generalize 48 + n % 10 = e at *
    generalize n % 10 = d at *
    generalize n / 10 = m at *
    have q1 : 1 + s.size ≤ 9223372036854775807 := by omega
    have q2 := b1_txt x
    refine ⟨[], hD n d e m x, [], fun _ _ => noC, fun _ _ => noL, fun F => ?_⟩
    refine cast (congrArg (VAll _) (oD_eq s n d e m x F).symm) ⟨⟨?_, rfl, .inl ⟨rfl, ⟨(m, b1 x ++ s), hlt2, hnext⟩, hlt, [], by kernel_rfl, by kernel_rfl, ⟨Wk.refl _, Wk.refl _, trivial⟩, trivial⟩⟩⟩
    simp only [Cnd.holds, q1, Nat.blt_eq, true_and, and_true]
    and_intros
    all_goals first
      | (with_reducible exact wk_int m1)
      | (with_reducible exact wk_int m2)
      | (with_reducible exact wk_u8 m3)
      | (with_reducible exact wk_int m4)
      | exact wk_litE e1
      | exact Nat.le_refl _
      | (with_reducible exact trivial)
      | (with_reducible exact rfl)
      | (with_reducible exact Wk.refl _)
      | (with_reducible exact VW.refl _)
      | (with_reducible exact OW.refl _)
      | (with_reducible exact wk_lit _)
      | (with_reducible assumption)
      | exact rfl
      | exact Wk.refl _
      | exact VW.refl _
      | exact OW.refl _
      | ((repeat (first | exact VW.nil | refine VW.cons (Wk.refl _) ?_ | refine VW.cons (Wk.any _) ?_ | refine VW.cons (wk_cap (Nat.le_refl _)) ?_)); done)
theorem Digits_tri (n : Int) (hz : 0 ≤ n) (h1 : n < 9223372036854775807) : Tri Tryz.prog default fDigits [iv n] [] (sv (itoaB n)) [] := by
  obtain ⟨N, rfl⟩ : ∃ N : Nat, n = (N : Int) := ⟨n.toNat, by omega⟩
  rw [itoaB_nat]
  obtain ⟨k, s, hk, hs, he, hl⟩ := d_loop N (by omega)
  refine tri_run (con := []) (hints := hintL [(fDigits, 5, 1, hv (iv (Int.ofNat (48 + k)))), (fDigits, 5, 2, hv (byv (lastDigit k))), (fDigits, 5, 4, ht (b1 (lastDigit k))), (fDigits, 5, 6, h0)]) (lc := [(fDigits, 2, loopN fDigits 2, lD N k s)]) [] rfl (fun F _ => noC) (fun F _ => one_l (mkL_ok (W := default) oldDef gU_ro (fun _ _ => hl) fun _ => by
    simp only [RT.pick]
    exact closedT rfl rfl (all_cons trivial (all_cons trivial all_nil)) all_nil (all_cons trivial (all_cons trivial all_nil)) all_nil)) fun F => ?_
  refine cast (congrArg (VAll _) (oDg_eq N k (48 + k) (lastDigit k) s F).symm) ⟨⟨?_, (fit_mk (vs' := [sv (tB (Lib.decDigits N))]) (H' := []) [] rfl rfl (by rw [he]; exact VW.refl _) trivial).fits rfl⟩⟩
  have m2 := w_add (a := 48) (b := k) (by omega)
  have m3 := w_u8 (48 + k)
  have hx : lastDigit k = UInt8.ofNat (48 + k) := by unfold lastDigit; rw [Nat.mod_eq_of_lt (by omega)]
  rw [← hx] at m3
  have q1 : 1 + s.size ≤ 9223372036854775807 := by omega
  simp only [Cnd.holds, q1, Nat.blt_eq, true_and, and_true]
  and_intros
  all_goals first
    | (with_reducible exact wk_int m2)
    | (with_reducible exact wk_u8 m3)
    | exact Nat.le_refl _
    | (with_reducible exact trivial)
    | (with_reducible exact rfl)
    | (with_reducible exact Wk.refl _)
    | (with_reducible exact VW.refl _)
    | (with_reducible exact OW.refl _)
    | (with_reducible exact wk_lit _)
    | (with_reducible assumption)
    | exact rfl
    | exact Wk.refl _
    | exact VW.refl _
    | exact OW.refl _
    | ((repeat (first | exact VW.nil | refine VW.cons (Wk.refl _) ?_ | refine VW.cons (Wk.any _) ?_ | refine VW.cons (wk_cap (Nat.le_refl _)) ?_)); done)
theorem cDg_ok (F : HP) : C1OK Tryz.prog F fDigits cDg :=
  mkC_ok (W := default) oldDef (fun n => sv (itoaB n)) gI_ro (fun _ => rfl) (fun n h => Digits_tri n h.1 h.2) fun _ => ⟨rfl, rfl, ⟨trivial, trivial⟩, all_nil, ⟨trivial, trivial⟩, all_nil⟩
theorem Reason_tri (st : Int) : Tri Tryz.prog default fReason [iv st] [] (sv (reasonB st)) [] := by
  refine tri_run (con := []) (hints := noHints) (lc := []) [] rfl (fun F _ => noC) (fun F _ => noL) fun F => ?_
  refine cast (congrArg (VAll _) (oRs_eq st F).symm) ?_
  refine VAll.ite (fun hb1 => ?_) fun hb1 => VAll.ite (fun hb2 => ?_) fun hb2 => VAll.ite (fun hb3 => ?_) fun hb3 => VAll.ite (fun hb4 => ?_) fun hb4 => VAll.ite (fun hb5 => ?_) fun hb5 => VAll.ite (fun hb6 => ?_) fun hb6 => ?_
  all_goals
    refine ⟨⟨trivial, (fit_mk (vs' := [sv (reasonB st)]) (H' := []) [] rfl rfl ?_ trivial).fits rfl⟩⟩
    simp only [reasonB, *, cond_true, cond_false]
    exact VW.refl _
theorem RReason_tri (st : Int) : Tri Tryz.prog default fRReason [iv st] [] (sv (reasonB st)) [] := by
  refine tri_run (con := []) (hints := hintL [(fRReason, 4, 1, hn), (fRReason, 5, 1, hn)]) (lc := []) [] rfl (fun F _ => noC) (fun F _ => noL) fun F => ?_
  refine cast (congrArg (VAll _) (oRr_eq st F).symm) ?_
  refine VAll.ite (fun hb1 => ?_) fun hb1 => VAll.ite (fun hb2 => ?_) fun hb2 => VAll.ite (fun hb3 => ?_) fun hb3 => VAll.ite (fun hb4 => ?_) fun hb4 => VAll.ite (fun hb5 => ?_) fun hb5 => VAll.ite (fun hb6 => ?_) fun hb6 => ?_
  all_goals
    rw [BEq.comm] at *
    refine ⟨⟨?_, (fit_mk (vs' := [sv (reasonB st)]) (H' := []) [] rfl rfl ?_ trivial).fits rfl⟩⟩
    · simp only [Cnd.holds, and_true]
      and_intros
      all_goals exact rfl
    · simp only [reasonB, *, cond_true, cond_false]
      exact VW.refl _
theorem cRe_ok (F : HP) : C1OK Tryz.prog F fReason cRe :=
  mkC_ok (W := default) oldDef (fun n => sv (reasonB n)) gI_ro (fun _ => rfl) (fun n h => Reason_tri n) fun _ => ⟨rfl, rfl, ⟨trivial, trivial⟩, all_nil, ⟨trivial, trivial⟩, all_nil⟩
theorem cRr_ok (F : HP) : C1OK Tryz.prog F fRReason cRe :=
  mkC_ok (W := default) oldDef (fun n => sv (reasonB n)) gI_ro (fun _ => rfl) (fun n h => RReason_tri n) fun _ => ⟨rfl, rfl, ⟨trivial, trivial⟩, all_nil, ⟨trivial, trivial⟩, all_nil⟩
end Go.Proofs.YtpijbbobejeemaaGreatDoor.Htp

/- Http: HttpResponds. -/
set_option linter.unusedVariables false
set_option linter.unusedSimpArgs false
set_option maxRecDepth 100000
namespace Go.Proofs.YtpijbbobejeemaaGreatDoor.Htp
open Go Go.RowKit Go.Proofs.YtpijbbobejeemaaGreatDoor.Eng Go.Proofs.YtpijbbobejeemaaGreatDoor.Kit
theorem mk_size (l : List UInt8) : (ByteArray.mk (Array.mk l)).size = l.length := rfl
theorem mk_data (l : List UInt8) : (ByteArray.mk (Array.mk l)).data.toList = l := rfl
theorem reason_size (st : Int) : (reasonB st).size ≤ 17 := by
  unfold reasonB
  cases st == Int.ofNat 200 <;> simp only [cond_true, cond_false] <;> (try decide)
  cases st == Int.ofNat 204 <;> simp only [cond_true, cond_false] <;> (try decide)
  cases st == Int.ofNat 400 <;> simp only [cond_true, cond_false] <;> (try decide)
  cases st == Int.ofNat 401 <;> simp only [cond_true, cond_false] <;> (try decide)
  cases st == Int.ofNat 404 <;> simp only [cond_true, cond_false] <;> (try decide)
  cases st == Int.ofNat 413 <;> simp only [cond_true, cond_false] <;> (try decide)
def l1B (st : Int) : ByteArray := ByteArray.mk (Array.mk [72, 84, 84, 80, 47, 49, 46, 49, 32]) ++ itoaB st ++ ByteArray.mk (Array.mk [32]) ++ reasonB st
def l3B (n : Nat) : ByteArray := ByteArray.mk (Array.mk [67, 111, 110, 116, 101, 110, 116, 45, 76, 101, 110, 103, 116, 104, 58, 32]) ++ itoaB ↑n
def ctB : ByteArray := ByteArray.mk (Array.mk [67, 111, 110, 116, 101, 110, 116, 45, 84, 121, 112, 101, 58, 32, 97, 112, 112, 108, 105, 99, 97, 116, 105, 111, 110, 47, 106, 115, 111, 110])
def waB : ByteArray := ByteArray.mk (Array.mk [87, 87, 87, 45, 65, 117, 116, 104, 101, 110, 116, 105, 99, 97, 116, 101, 58, 32, 66, 97, 115, 105, 99, 32, 114, 101, 97, 108, 109, 61, 34, 119, 97, 114, 114, 101, 110, 34])
def jB (st : Int) (n : Nat) (b : Bool) : ByteArray := cond b (joinB [l1B st, ctB, l3B n, waB] (ByteArray.mk (Array.mk [13, 10]))) (joinB [l1B st, ctB, l3B n] (ByteArray.mk (Array.mk [13, 10])))
def resB (st : Int) (body : ByteArray) (b : Bool) : ByteArray := jB st body.size b ++ ByteArray.mk (Array.mk [13, 10, 13, 10]) ++ body
theorem join3 (a b c : ByteArray) (t : ByteArray) : (joinB [a, b, c] t).data.toList = a.data.toList ++ (t.data.toList ++ (b.data.toList ++ (t.data.toList ++ c.data.toList))) := by
  unfold joinB
  rw [tB_data]
  simp [Lib.join, List.intercalate, List.intersperse]
theorem join4 (a b c d : ByteArray) (t : ByteArray) : (joinB [a, b, c, d] t).data.toList = a.data.toList ++ (t.data.toList ++ (b.data.toList ++ (t.data.toList ++ (c.data.toList ++ (t.data.toList ++ d.data.toList))))) := by
  unfold joinB
  rw [tB_data]
  simp [Lib.join, List.intercalate, List.intersperse]
theorem l1_size (st : Int) (h0 : -9223372036854775808 ≤ st) (h1 : st ≤ 9223372036854775807) : (l1B st).size ≤ 48 := by
  have h2 := itoa_size st h0 h1
  have h3 := reason_size st
  unfold l1B
  simp only [ByteArray.size_append, mk_size, List.length_cons, List.length_nil]
  omega
theorem l3_size (n : Nat) (h : n ≤ 9223372036854775807) : (l3B n).size ≤ 37 := by
  have h2 := itoa_size (n : Int) (by omega) (by omega)
  unfold l3B
  simp only [ByteArray.size_append, mk_size, List.length_cons, List.length_nil]
  omega
theorem j_size (st : Int) (n : Nat) (b : Bool) (h0 : -9223372036854775808 ≤ st) (h1 : st ≤ 9223372036854775807) (h : n ≤ 9223372036854775807) : (jB st n b).size ≤ 200 := by
  have h2 := l1_size st h0 h1
  have h3 := l3_size n h
  have e1 : ctB.data.toList.length = 30 := rfl
  have e2 : waB.data.toList.length = 38 := rfl
  rw [← ba_size]
  unfold jB
  cases b
  · simp only [cond_false, join3, List.length_append, ba_size, mk_size, List.length_cons, List.length_nil]
    rw [← ba_size ctB]; omega
  · simp only [cond_true, join4, List.length_append, ba_size, mk_size, List.length_cons, List.length_nil]
    rw [← ba_size ctB, ← ba_size waB]; omega
theorem Respond_tri {W : World} (hW : LW W) (st : Int) (body : ByteArray) (h0 : -9223372036854775808 ≤ st) (h1 : st ≤ 9223372036854775807) (hb : body.size ≤ 1100000) :
    Tri Tryz.prog W fRespond [iv st, sv body] [] (sB 1000 (resB st body (st == Int.ofNat 401)).size) [(1000, rB1 (resB st body (st == Int.ofNat 401)).data.toList)] := by
  have i1 := itoa_size st h0 h1
  have i2 := itoa_size (body.size : Int) (by omega) (by omega)
  have i3 := reason_size st
  have i4 := l1_size st h0 h1
  have i5 := l3_size body.size (by omega)
  have n1 : Int.negSucc 9223372036854775807 ≤ st := h0
  have n2 : Int.negSucc 9223372036854775807 ≤ (body.size : Int) := by have : Int.negSucc 9223372036854775807 ≤ 0 := by decide
                                                                      omega
  have n3 : (body.size : Int) ≤ Int.ofNat 9223372036854775807 := by simp only [Int.ofNat_eq_natCast]; omega
  cases hc : st == Int.ofNat 401 with
  | false =>
    have i6 := j_size st body.size false h0 h1 (by omega)
    have hj : (Lib.join [(l1B st).data.toList, [67, 111, 110, 116, 101, 110, 116, 45, 84, 121, 112, 101, 58, 32, 97, 112, 112, 108, 105, 99, 97, 116, 105, 111, 110, 47, 106, 115, 111, 110], (l3B body.size).data.toList] [13, 10]).length ≤ 140737488355328 := by
      have : (jB st body.size false).size = (Lib.join [(l1B st).data.toList, [67, 111, 110, 116, 101, 110, 116, 45, 84, 121, 112, 101, 58, 32, 97, 112, 112, 108, 105, 99, 97, 116, 105, 111, 110, 47, 106, 115, 111, 110], (l3B body.size).data.toList] [13, 10]).length := tB_size _
      omega
    refine tri_run (con := [(39, cItoa), (fReason, cRe), (40, cJoin)]) (hints := hRp false (l1B st) (l3B body.size) (jB st body.size false) (resB st body false) 1101) (lc := []) [1100, 1101, 1102, 1103, 1104, 1105] rfl (fun F hF => con_cons (cItoa_ok hW hF) (con_cons (cRe_ok F) (one_c (cJoin_ok hF)))) (fun F _ => noL) fun F => ?_
    refine cast (congrArg (VAll _) (oRp_eq W st body (l1B st) (l3B body.size) (jB st body.size false) (resB st body false) F).symm) ⟨⟨?_, (fit_mk (vs' := [sB 1000 _]) (H' := [(1000, rB1 _)]) [(1000, 1101)] rfl rfl (VW.refl _) ⟨⟨_, rfl, rB1_ow rfl rfl⟩, trivial⟩).fits rfl⟩⟩
    simp only [Cnd.holds, Nat.blt_eq, true_and, and_true]
    and_intros
    all_goals first
      | (with_reducible exact n1)
      | (with_reducible exact h1)
      | (with_reducible exact n2)
      | (with_reducible exact n3)
      | exact hj
      | exact wk_litE hc
      | exact ow_cells (rowB_map _).symm
      | exact Nat.le_refl _
      | (simp only [ByteArray.size_append, mk_size, List.length_cons, List.length_nil]; omega)
      | omega
      | (with_reducible exact trivial)
      | (with_reducible exact rfl)
      | (with_reducible exact Wk.refl _)
      | (with_reducible exact VW.refl _)
      | (with_reducible exact OW.refl _)
      | (with_reducible exact wk_lit _)
      | (with_reducible assumption)
      | exact rfl
      | exact Wk.refl _
      | exact VW.refl _
      | exact OW.refl _
      | ((repeat (first | exact VW.nil | refine VW.cons (Wk.refl _) ?_ | refine VW.cons (Wk.any _) ?_ | refine VW.cons (wk_cap (Nat.le_refl _)) ?_)); done)
  | true =>
    have i6 := j_size st body.size true h0 h1 (by omega)
    have hj : (Lib.join [(l1B st).data.toList, [67, 111, 110, 116, 101, 110, 116, 45, 84, 121, 112, 101, 58, 32, 97, 112, 112, 108, 105, 99, 97, 116, 105, 111, 110, 47, 106, 115, 111, 110], (l3B body.size).data.toList, waB.data.toList] [13, 10]).length ≤ 140737488355328 := by
      have : (jB st body.size true).size = (Lib.join [(l1B st).data.toList, [67, 111, 110, 116, 101, 110, 116, 45, 84, 121, 112, 101, 58, 32, 97, 112, 112, 108, 105, 99, 97, 116, 105, 111, 110, 47, 106, 115, 111, 110], (l3B body.size).data.toList, waB.data.toList] [13, 10]).length := tB_size _
      omega
    refine tri_run (con := [(39, cItoa), (fReason, cRe), (40, cJoin)]) (hints := hRp true (l1B st) (l3B body.size) (jB st body.size true) (resB st body true) 1103) (lc := []) [1100, 1101, 1102, 1103, 1104, 1105] rfl (fun F hF => con_cons (cItoa_ok hW hF) (con_cons (cRe_ok F) (one_c (cJoin_ok hF)))) (fun F _ => noL) fun F => ?_
    refine cast (congrArg (VAll _) (oRp4_eq W st body (l1B st) (l3B body.size) (jB st body.size true) (resB st body true) F).symm) ⟨⟨?_, (fit_mk (vs' := [sB 1000 _]) (H' := [(1000, rB1 _)]) [(1000, 1103)] rfl rfl (VW.refl _) ⟨⟨_, rfl, rB1_ow rfl rfl⟩, trivial⟩).fits rfl⟩⟩
    simp only [Cnd.holds, Nat.blt_eq, true_and, and_true]
    and_intros
    all_goals first
      | (with_reducible exact n1)
      | (with_reducible exact h1)
      | (with_reducible exact n2)
      | (with_reducible exact n3)
      | exact hj
      | exact wk_litE hc
      | exact ow_cells (rowB_map _).symm
      | exact Nat.le_refl _
      | (simp only [ByteArray.size_append, mk_size, List.length_cons, List.length_nil]; omega)
      | omega
      | (with_reducible exact trivial)
      | (with_reducible exact rfl)
      | (with_reducible exact Wk.refl _)
      | (with_reducible exact VW.refl _)
      | (with_reducible exact OW.refl _)
      | (with_reducible exact wk_lit _)
      | (with_reducible assumption)
      | exact rfl
      | exact Wk.refl _
      | exact VW.refl _
      | exact OW.refl _
      | ((repeat (first | exact VW.nil | refine VW.cons (Wk.refl _) ?_ | refine VW.cons (Wk.any _) ?_ | refine VW.cons (wk_cap (Nat.le_refl _)) ?_)); done)
theorem RRespond_tri (st : Int) (body : ByteArray) (h0 : 0 ≤ st) (h1 : st < 9223372036854775807) (hb : body.size ≤ 1100000) :
    Tri Tryz.prog default fRRespond [iv st, sv body] [] (sv (resB st body (st == Int.ofNat 401))) [] := by
  have i1 := itoa_size st (by omega) (by omega)
  have i2 := itoa_size (body.size : Int) (by omega) (by omega)
  have i3 := reason_size st
  have n1 : Int.ofNat 0 ≤ st := h0
  have n2 : Int.ofNat 0 ≤ (body.size : Int) := Int.natCast_nonneg _
  have n3 : (body.size : Int) < Int.ofNat 9223372036854775807 := by simp only [Int.ofNat_eq_natCast]; omega
  cases hc : st == Int.ofNat 401 with
  | false =>
    refine tri_run (con := [(fDigits, cDg), (fRReason, cRe)]) (hints := hRr false (resB st body false)) (lc := []) [] rfl (fun F hF => con_cons (cDg_ok F) (one_c (cRr_ok F))) (fun F _ => noL) fun F => ?_
    refine cast (congrArg (VAll _) (oRq_eq st body (resB st body false) F).symm) ⟨⟨?_, (fit_mk (vs' := [sv _]) (H' := []) [] rfl rfl (VW.refl _) trivial).fits rfl⟩⟩
    simp only [Cnd.holds, Nat.blt_eq, true_and, and_true]
    and_intros
    all_goals first
      | (with_reducible exact n1)
      | (with_reducible exact h1)
      | (with_reducible exact n2)
      | (with_reducible exact n3)
      | exact wk_litE hc
      | (simp only [ByteArray.size_append, mk_size, List.length_cons, List.length_nil]; omega)
      | omega
      | exact wk_sv (ba_ext (by unfold resB jB; simp only [cond_false, ba_app, join3, l1B, l3B, ctB, mk_data, List.append_assoc, List.cons_append, List.nil_append]))
      | (with_reducible exact trivial)
      | (with_reducible exact rfl)
      | (with_reducible exact Wk.refl _)
      | (with_reducible exact VW.refl _)
      | (with_reducible exact OW.refl _)
      | (with_reducible exact wk_lit _)
      | (with_reducible assumption)
      | exact rfl
      | exact Wk.refl _
      | exact VW.refl _
      | exact OW.refl _
      | ((repeat (first | exact VW.nil | refine VW.cons (Wk.refl _) ?_ | refine VW.cons (Wk.any _) ?_ | refine VW.cons (wk_cap (Nat.le_refl _)) ?_)); done)
  | true =>
    refine tri_run (con := [(fDigits, cDg), (fRReason, cRe)]) (hints := hRr true (resB st body true)) (lc := []) [] rfl (fun F hF => con_cons (cDg_ok F) (one_c (cRr_ok F))) (fun F _ => noL) fun F => ?_
    refine cast (congrArg (VAll _) (oRq4_eq st body (resB st body true) F).symm) ⟨⟨?_, (fit_mk (vs' := [sv _]) (H' := []) [] rfl rfl (VW.refl _) trivial).fits rfl⟩⟩
    simp only [Cnd.holds, Nat.blt_eq, true_and, and_true]
    and_intros
    all_goals first
      | (with_reducible exact n1)
      | (with_reducible exact h1)
      | (with_reducible exact n2)
      | (with_reducible exact n3)
      | exact wk_litE hc
      | (simp only [ByteArray.size_append, mk_size, List.length_cons, List.length_nil]; omega)
      | omega
      | exact wk_sv (ba_ext (by unfold resB jB; simp only [cond_true, ba_app, join4, l1B, l3B, ctB, waB, mk_data, List.append_assoc, List.cons_append, List.nil_append]))
      | (with_reducible exact trivial)
      | (with_reducible exact rfl)
      | (with_reducible exact Wk.refl _)
      | (with_reducible exact VW.refl _)
      | (with_reducible exact OW.refl _)
      | (with_reducible exact wk_lit _)
      | (with_reducible assumption)
      | exact rfl
      | exact Wk.refl _
      | exact VW.refl _
      | exact OW.refl _
      | ((repeat (first | exact VW.nil | refine VW.cons (Wk.refl _) ?_ | refine VW.cons (Wk.any _) ?_ | refine VW.cons (wk_cap (Nat.le_refl _)) ?_)); done)
theorem Responds_tri {W : World} (hW : LW W) (st : Int) (body : ByteArray) (h0 : -9223372036854775808 ≤ st) (h1 : st ≤ 9223372036854775807) (hb : body.size ≤ 1100000) : Tri Tryz.prog W fResponds [iv st, sv body] [] (bv true) [] := by
  have hrr : (!((reasonB st).toList == (reasonB st).toList)) = false := by rw [beq_self_eq_true]; rfl
  have hcon : (0 ≤ st ∧ st < 9223372036854775807) → ∀ F, OldOK W F → ∀ x ∈ ([(fSpeaks, cSpk), (fReason, cRe), (fRReason, cRe), (fRespond, cRpS st body (resB st body (st == Int.ofNat 401)) (resB st body (st == Int.ofNat 401)).size), (fRRespond, cRqS st body (resB st body (st == Int.ofNat 401)))] : ConsL), C1OK Tryz.prog F x.1 x.2 := fun hs F hF =>
    con_cons (cSpk_ok hW hF) (con_cons (cRe_ok F) (con_cons (cRr_ok F) (con_cons (mkC_ok hF (fun _ => sB 1000 _) gU_ro (fun _ => rfl) (fun _ _ => Respond_tri hW st body h0 h1 hb) fun _ => ⟨rfl, rfl, ⟨trivial, trivial, trivial⟩, all_nil, ⟨rfl, trivial⟩, all_cons (rB1_cl _ _) all_nil⟩)
      (one_c (mkC_ok (W := default) oldDef (fun _ => sv _) gU_ro (fun _ => rfl) (fun _ _ => RRespond_tri st body hs.1 hs.2 hb) fun _ => ⟨rfl, rfl, ⟨trivial, trivial, trivial⟩, all_nil, ⟨trivial, trivial⟩, all_nil⟩)))))
  by_cases c1 : st < 100
  · have e1 : decide (st < Int.ofNat 100) = true := decide_eq_true c1
    refine tri_run (con := [(fSpeaks, cSpk), (fReason, cRe), (fRReason, cRe)]) (hints := hRL true false default) (lc := []) [] rfl (fun F hF => con_cons (cSpk_ok hW hF) (con_cons (cRe_ok F) (one_c (cRr_ok F)))) (fun F _ => noL) fun F => ?_
    refine cast (congrArg (VAll _) (oRL1_eq W st body F).symm) ⟨⟨?_, fits_true⟩⟩
    simp only [Cnd.holds, e1, hrr, Nat.blt_eq, true_and, and_true]
    and_intros
    all_goals first
      | (with_reducible exact trivial)
      | (with_reducible exact rfl)
      | (with_reducible exact Wk.refl _)
      | (with_reducible exact VW.refl _)
      | (with_reducible exact OW.refl _)
      | (with_reducible exact wk_lit _)
      | (with_reducible assumption)
      | exact rfl
      | exact Wk.refl _
      | exact VW.refl _
      | exact OW.refl _
      | ((repeat (first | exact VW.nil | refine VW.cons (Wk.refl _) ?_ | refine VW.cons (Wk.any _) ?_ | refine VW.cons (wk_cap (Nat.le_refl _)) ?_)); done)
  · have e1 : decide (st < Int.ofNat 100) = false := decide_eq_false c1
    by_cases c2 : st > 999
    · have e2 : decide (st > Int.ofNat 999) = true := decide_eq_true c2
      refine tri_run (con := [(fSpeaks, cSpk), (fReason, cRe), (fRReason, cRe)]) (hints := hRL false true default) (lc := []) [] rfl (fun F hF => con_cons (cSpk_ok hW hF) (con_cons (cRe_ok F) (one_c (cRr_ok F)))) (fun F _ => noL) fun F => ?_
      refine cast (congrArg (VAll _) (oRL2_eq W st body F).symm) ⟨⟨?_, fits_true⟩⟩
      simp only [Cnd.holds, e1, e2, hrr, Nat.blt_eq, true_and, and_true]
      and_intros
      all_goals first
        | (with_reducible exact trivial)
        | (with_reducible exact rfl)
        | (with_reducible exact Wk.refl _)
        | (with_reducible exact VW.refl _)
        | (with_reducible exact OW.refl _)
        | (with_reducible exact wk_lit _)
        | (with_reducible assumption)
        | exact rfl
        | exact Wk.refl _
        | exact VW.refl _
        | exact OW.refl _
        | ((repeat (first | exact VW.nil | refine VW.cons (Wk.refl _) ?_ | refine VW.cons (Wk.any _) ?_ | refine VW.cons (wk_cap (Nat.le_refl _)) ?_)); done)
    · have e2 : decide (st > Int.ofNat 999) = false := decide_eq_false c2
      have hin := hcon ⟨by omega, by omega⟩
      generalize resB st body (st == Int.ofNat 401) = res at hin
      refine tri_run (con := [(fSpeaks, cSpk), (fReason, cRe), (fRReason, cRe), (fRespond, cRpS st body res res.size), (fRRespond, cRqS st body res)]) (hints := hRL false false res) (lc := []) [] rfl hin (fun F _ => noL) fun F => ?_
      refine cast (congrArg (VAll _) (oRL3_eq W st body res res.size F).symm) ⟨⟨?_, fits_true⟩⟩
      have q5 : 0 + res.size ≤ (rowV encB res.data.toList).length := by rw [rB_len, ba_size]; omega
      have q6 : List.take res.size (List.drop 0 (rowV encB res.data.toList)) = vmap (List.map (fun b => Value.int IntKind.u8 ↑b.toNat) res.data.toList) := by
        rw [List.drop_zero, List.take_of_length_le (by rw [rB_len, ba_size]; exact Nat.le_refl _), rowB_map]
      simp only [Cnd.holds, e1, e2, hrr, rens_rowV, q5, q6, beq_self_eq_true, Nat.blt_eq, true_and, and_true]
      and_intros
      all_goals first
        | (with_reducible exact trivial)
        | (with_reducible exact rfl)
        | (with_reducible exact Wk.refl _)
        | (with_reducible exact VW.refl _)
        | (with_reducible exact OW.refl _)
        | (with_reducible exact wk_lit _)
        | (with_reducible assumption)
        | exact rfl
        | exact Wk.refl _
        | exact VW.refl _
        | exact OW.refl _
        | ((repeat (first | exact VW.nil | refine VW.cons (Wk.refl _) ?_ | refine VW.cons (Wk.any _) ?_ | refine VW.cons (wk_cap (Nat.le_refl _)) ?_)); done)
end Go.Proofs.YtpijbbobejeemaaGreatDoor.Htp

