/- Parts of the proof, merged. -/
import Derived.Test.YtpijbbobejeemaaGreatDoorEngLoopE
import Derived.Test.YtpijbbobejeemaaGreatDoorEngKit3
import Derived.Test.YtpijbbobejeemaaGreatDoorEngCon
import Derived.Test.YtpijbbobejeemaaGreatDoorEngRow
import Derived.Test.YtpijbbobejeemaaGreatDoorEngKit
import Derived.Lib.LaidTab
import Derived.Test.YtpijbbobejeemaaGreatDoorShelf
import Derived.Lib.AppendIntMem
import Derived.Test.YtpijbbobejeemaaGreatDoorEngClosedC
import Derived.Laws.Externs
import Derived.Test.YtpijbbobejeemaaGreatDoorEngSorted
import Derived.Lib.SplitLaws
import Derived.Test.YtpijbbobejeemaaGreatDoorProg
import Derived.KernelRfl
import Derived.WalkKit
import Derived.Lib.Strings
import Derived.Lib.Slices
import Derived.Lib.Walk
import Derived.Lib.Bytealg
import Derived.Laws.RangeAny
import Derived.Laws.Runes
/- Code in pieces: behind a piece the state is one of many, which one is known in the world alone. No program. -/
set_option linter.unusedVariables false
set_option linter.unusedSimpArgs false
namespace Go.Proofs.YtpijbbobejeemaaGreatDoor.Eng
open Go Go.RowKit
def CTri (P : Program) (W : World) (cd : Code) (A : List AV) (H : LH) {ρ : Type} (ax : ρ → AX) (A' : ρ → List AV) (H' : ρ → LH) : Prop :=
  ∀ (W0 : World) (F : HP) (N : Names) (w : World) (a : Act) (Q : Exit → Act → World → Prop), OldOK W F → NB N H → Rep W0 N F (heapOf H) w → VRs N A a.tmps.toList →
    (∀ r a' w', St W0 F N (H' r) (A' r) a'.tmps.toList w' → a'.defers = a.defers → Q (exitOf (ax r)) a' w') → cd.wp P Q a w
section
variable {P : Program} {W : World} {ρ σ : Type}
theorem CTri.pre {cd : Code} {A A1 : List AV} {H H1 : LH} {ax : ρ → AX} {A' : ρ → List AV} {H' : ρ → LH} (h : CTri P W cd A1 H1 ax A' H') (hg : Goes A H A1 H1) : CTri P W cd A H ax A' H' := by
  intro W0 F N w a Q hF hN r ha hK
  obtain ⟨N1, g1, g2, g3, g4⟩ := hg W0 F N _ _ ⟨N, fun _ _ => rfl, hN, r, ha⟩
  exact h W0 F N1 w a Q hF g2 g3 g4 fun q a' w' ⟨N2, k1, k2, k3, k4⟩ hd => hK q a' w' ⟨N2, fun i hi => (k1 i hi).trans (g1 i hi), k2, k3, k4⟩ hd
theorem CTri.post {cd : Code} {A : List AV} {H : LH} {ax : ρ → AX} {A' : ρ → List AV} {H' : ρ → LH} {ρ2 : Type} {ax2 : ρ2 → AX} {A2 : ρ2 → List AV} {H2 : ρ2 → LH} (h : CTri P W cd A H ax A' H') (hg : ∀ r, ∃ r2, ax2 r2 = ax r ∧ Goes (A' r) (H' r) (A2 r2) (H2 r2)) : CTri P W cd A H ax2 A2 H2 := by
  intro W0 F N w a Q hF hN r ha hK
  refine h W0 F N w a Q hF hN r ha fun q a' w' hs hd => ?_
  obtain ⟨r2, e, hg⟩ := hg q
  rw [← e]
  exact hK r2 a' w' (hg _ _ _ _ _ hs) hd
theorem CTri.seq {c1 c2 : Code} {A : List AV} {H : LH} {A1 : σ → List AV} {H1 : σ → LH} {ax : ρ → AX} {A' : ρ → List AV} {H' : ρ → LH} (h1 : CTri P W c1 A H (fun _ : σ => .normal) A1 H1) (h2 : ∀ s, CTri P W c2 (A1 s) (H1 s) ax A' H') : CTri P W (.seq c1 c2) A H ax A' H' := by
  intro W0 F N w a Q hF hN r ha hK
  refine wp_seq (h1 W0 F N w a _ hF hN r ha fun s a' w' hs hd => ?_)
  obtain ⟨N1, g1, g2, g3, g4⟩ := hs
  exact h2 s W0 F N1 w' a' Q hF g2 g3 g4 fun q a2 w2 ⟨N2, k1, k2, k3, k4⟩ hd2 => hK q a2 w2 ⟨N2, fun i hi => (k1 i hi).trans (g1 i hi), k2, k3, k4⟩ (hd2.trans hd)
theorem CTri.block {c : Code} {id : Nat} {A : List AV} {H : LH} {A' : ρ → List AV} {H' : ρ → LH} (h : CTri P W c A H (fun _ : ρ => .exit id) A' H') : CTri P W (.block id c) A H (fun _ : ρ => .normal) A' H' := by
  intro W0 F N w a Q hF hN r ha hK
  refine wp_block (h W0 F N w a _ hF hN r ha fun q a' w' hs hd => ?_)
  show (if id = id then Q .normal a' w' else _)
  rw [if_pos rfl]
  exact hK q a' w' hs hd
theorem Tri.body {f : FuncId} {fn : Func} {cd : Code} {t m : Nat} {A A0 : List AV} {H H' : LH} {v : AV} {ax : AX} (hfn : P.funcs[f]? = some fn) (hcd : fn.body = some cd) (hres : fn.results = #[.tmp t]) (hm : fn.ntmps = m) (hA0 : A ++ List.replicate (m - A.length) AV.undef = A0) (hax : ax = .ret ∨ ax = .normal) (ht : t < m)
    (h : CTri P W cd A0 H (fun _ : Unit => ax) (fun _ => tms 0 m [(t, v)]) (fun _ => H')) : Tri P W f A H v H' := by
  intro W0 F N w vargs hF hN r ha
  have hlen : A.length = vargs.size := by rw [ha.len]; simp
  refine calls_of_wp hfn hcd ?_
  refine h W0 F N w _ _ hF hN r ?_ fun _ a' w' hs hd => ?_
  · subst hA0
    rw [Array.toList_append, Array.toList_replicate, hm, hlen]
    refine ha.append ?_
    generalize m - vargs.size = k
    induction k with
    | zero => exact VRs_nil
    | succ k ih => exact VRs_cons.2 ⟨undef_VR, ih⟩
  · obtain ⟨N1, g1, g2, g3, g4⟩ := hs
    have hv : ∀ (k j : Nat) (l : List Value), k ≤ t → t < k + j → VRs N1 (tms k j [(t, v)]) l → ∃ y, l[t - k]? = some y ∧ VR N1 v y := by
      intro k j
      induction j generalizing k with
      | zero => intro l h1 h2; omega
      | succ j ih =>
        intro l h1 h2 hl
        rw [tms] at hl
        simp only [VRs] at hl
        obtain ⟨y, l', q1, q2, rfl⟩ := hl
        by_cases e : k = t
        · subst e
          refine ⟨y, by simp, ?_⟩
          simpa using q1
        · obtain ⟨z, z1, z2⟩ := ih (k + 1) l' (by omega) (by omega) q2
          exact ⟨z, by rw [show t - k = (t - (k + 1)) + 1 from by omega, List.getElem?_cons_succ]; exact z1, z2⟩
    obtain ⟨y, hy, hvy⟩ := hv 0 m _ (Nat.zero_le _) (by omega) g4
    have hr : (results fn a'.tmps).run P w' = .ok y w' := by
      unfold results
      rw [hres]
      have : a'.tmps.getD t Go.undef = y := by
        rw [Nat.sub_zero, Array.getElem?_toList] at hy
        simp [Array.getD_eq_getD_getElem?, hy]
      rw [Array.getD_eq_getD_getElem?] at this
      simp [this]
    have hpost : a'.defers = [] ∧ ∃ y, (results fn a'.tmps).run P w' = .ok y w' ∧ ∃ z, Ending.returned y = .returned z ∧ St W0 F N H' [v] [z] w' := ⟨hd, y, hr, y, rfl, N1, g1, g2, g3, VRs_cons.2 ⟨hvy, VRs_nil⟩⟩
    rcases hax with rfl | rfl
    · exact hpost
    · exact hpost
theorem CTri.run {con : ConT} {claim : ClaimT} {lcon : LconT} {g : FuncId} {cd : Code} {A : List AV} {H : LH} {ax : ρ → AX} {A' : ρ → List AV} {H' : ρ → LH} (ks : List Nat) (fuel : Nat) (hm : P.follows .mixedOrders = true) (hH : namesLt 1100 H = true)
    (hcon : ∀ F, OldOK W F → ConOK P (envO P F con claim lcon W)) (hl : ∀ F, OldOK W F → LconOK P (envO P F con claim lcon W))
    (hrun : ∀ F, OldOK W F → (((runCode P (envO P F con claim lcon W) fuel g cd A).run2 (heapOf H) 1100 []).view ks).all fun u os _ => FitsE ks u.2 os fun W0 F N ys w => ∃ q, ax q = u.1 ∧ St W0 F N (H' q) (A' q) ys w) : CTri P W cd A H ax A' H' := by
  intro W0 F N w a Q hF hN r ha hK
  obtain ⟨⟨x, t⟩, h', n', lg', c, he, hc, hq⟩ := VT.all_pick (hrun F hF)
  rw [run2_pick] at he
  refine (runCode_sound hF.env hm (hcon F hF) (hl F hF) fuel).1 _ _ _ _ _ _ _ _ _ _ _ _ _ _ _ _ _ _ he hc r ha (fun i h1 h2 => hN.nothing hH h1) fun N2 a2 w2 r2 t2 d2 x2 => ?_
  have hlim := run_limit _ he (by decide)
  obtain ⟨q, e, hs⟩ := hq.state r2 x2 hlim (fun i hi => hN.nothing hH hi) t2
  simp only at e
  rw [← e]
  exact hK q a2 w2 hs d2
theorem CTri.loop {con : σ → ConT} {claim : σ → ClaimT} {lcon : σ → LconT} {g : FuncId} {b : Code} (A : σ → List AV) (H : σ → LH) (ax : ρ → AX) (A' : ρ → List AV) (H' : ρ → LH) (hax : ∀ q, ax q ≠ .normal) (μ : σ → Nat) (ks : List Nat) (fuel : Nat) (hm : P.follows .mixedOrders = true)
    (hH : ∀ s, namesLt 1100 (H s) = true)
    (hcon : ∀ s F, OldOK W F → ConOK P (envO P F (con s) (claim s) (lcon s) W)) (hl : ∀ s F, OldOK W F → LconOK P (envO P F (con s) (claim s) (lcon s) W))
    (hstep : ∀ s F, OldOK W F → (((runCode P (envO P F (con s) (claim s) (lcon s) W) fuel g b (A s)).run2 (heapOf (H s)) 1100 []).view ks).all fun r os _ =>
      FitsE ks r.2 os fun W0 F N ys w => (r.1 = .normal ∧ ∃ s', μ s' < μ s ∧ St W0 F N (H s') (A s') ys w) ∨ ∃ q, ax q = r.1 ∧ St W0 F N (H' q) (A' q) ys w) (s : σ) :
    CTri P W (.loop b) (A s) (H s) ax A' H' := by
  intro W0 F N w a Q hF hN r ha hK
  refine wp_loop_rounds (μ s + 1) ?_
  have key : ∀ (m : Nat) (s : σ), μ s < m → ∀ (N1 : Names) (w : World) (a1 : Act), (∀ i, i < 1000 → N1 i = N i) → NB N1 (H s) → Rep W0 N1 F (heapOf (H s)) w → VRs N1 (A s) a1.tmps.toList → a1.defers = a.defers →
      Code.rounds P b Q m a1 w := by
    intro m
    induction m with
    | zero => intro s hs; omega
    | succ m ih =>
      intro s hs N1 w a1 hN1 hNB r ha hd
      rw [rounds_succ]
      obtain ⟨⟨x, t⟩, h', n', lg', c, he, hc, hq⟩ := VT.all_pick (hstep s F hF)
      rw [run2_pick] at he
      refine (runCode_sound hF.env hm (hcon s F hF) (hl s F hF) fuel).1 _ _ _ _ _ _ _ _ _ _ _ _ _ _ _ _ _ _ he hc r ha (fun i h1 h2 => hNB.nothing (hH s) h1) fun N2 a2 w2 r2 t2 d2 x2 => ?_
      have hlim := run_limit _ he (by decide)
      have hN0 : ∀ i, 1100 ≤ i → N1 i = none := fun i hi => hNB.nothing (hH s) hi
      rcases hq.state r2 x2 hlim hN0 t2 with ⟨e, s', hμ, N3, q1, q2, q3, q4⟩ | ⟨q, e, N3, q1, q2, q3, q4⟩
      · simp only at e
        subst e
        show Code.rounds P b Q m a2 w2
        exact ih s' (by omega) N3 w2 a2 (fun i hi => (q1 i hi).trans (hN1 i hi)) q2 q3 q4 (d2.trans hd)
      · have hfin := hK q a2 w2 ⟨N3, fun i hi => (q1 i hi).trans (hN1 i hi), q2, q3, q4⟩ (d2.trans hd)
        have hx : x ≠ .normal := fun h => hax q (e.trans h)
        rw [e] at hfin
        cases x with
        | normal => exact absurd rfl hx
        | exit id => exact hfin
        | ret => exact hfin
  exact key _ s (by omega) N w a (fun _ _ => rfl) hN r ha rfl
end
end Go.Proofs.YtpijbbobejeemaaGreatDoor.Eng

/- Code in pieces, over the program. -/
set_option linter.unusedVariables false
set_option linter.unusedSimpArgs false
namespace Go.Proofs.YtpijbbobejeemaaGreatDoor.Kit
open Go Go.RowKit Go.Proofs.YtpijbbobejeemaaGreatDoor.Eng
section
variable {W : World} {g : FuncId} {ρ σ : Type}
end
/-! Pieces of code. -/
def fst : Code → Code
  | .seq a _ => a
  | c => c
def snd : Code → Code
  | .seq _ b => b
  | c => c
end Go.Proofs.YtpijbbobejeemaaGreatDoor.Kit

/- Rows of like elements: cells one by one. No program. -/
set_option linter.unusedVariables false
set_option linter.unusedSimpArgs false
namespace Go.Proofs.YtpijbbobejeemaaGreatDoor.Eng
open Go Go.RowKit
section
variable {α : Type} {enc : α → List Value} {k : Nat}
theorem row_getD (hk : ∀ x, (enc x).length = k) (L : List α) (d0 : α) (i : Nat) (hi : i < L.length) (j : Nat) (hj : j < k) (v : Value) (hv : (enc (L.getD i d0))[j]? = some v) (d : AV) : (rowV enc L).getD (0 + i * k + j) d = .v v := by
  have h := rowV_span hk L d0 i hi
  have h2 : (((rowV enc L).drop (i * k)).take k)[j]? = some (.v v) := by
    rw [h, vmap, List.getElem?_map, hv]; rfl
  rw [List.getElem?_take_of_lt hj, List.getElem?_drop] at h2
  rw [Nat.zero_add, List.getD, h2]; rfl
end
theorem getD_lt {α : Type} {L : List α} {d : α} {i : Nat} (h : i < L.length) : L.getD i d ∈ L := by
  rw [List.getD, List.getElem?_eq_getElem h]; exact List.getElem_mem h
end Go.Proofs.YtpijbbobejeemaaGreatDoor.Eng

/- Rows of texts and of bytes; small laws that runs leave. -/
set_option linter.unusedVariables false
set_option linter.unusedSimpArgs false
set_option maxRecDepth 100000
namespace Go.Proofs.YtpijbbobejeemaaGreatDoor.Kit
open Go Go.RowKit Go.Proofs.YtpijbbobejeemaaGreatDoor.Eng
/-! Rows of texts. -/
def encS (s : ByteArray) : List Value := [.string s]
def nil0 : ByteArray := ByteArray.empty
abbrev tStr : TypeId := 2 * 9
def rS (l : List ByteArray) : AO := .cells (rowV encS l) tStr
theorem encS_len (x : ByteArray) : (encS x).length = 1 := rfl
theorem rS_len (M : List ByteArray) : (rowV encS M).length = M.length := by rw [rowV_length (k := 1) encS_len, Nat.mul_one]
theorem rS_ren (σ : Nat → Nat) (L : List ByteArray) : (rS L).ren σ = rS L := by simp only [rS, AO.ren, rens_rowV]
theorem rS_ow {x : List AV} {L : List ByteArray} {e : TypeId} {σ : Nat → Nat} (h : x = rowV encS L) (he : e = tStr) : OW (.cells x e) ((rS L).ren σ) := by rw [rS_ren]; subst h he; exact OW.refl _
theorem rS_cl (K : Nat → Bool) (L : List ByteArray) : (rS L).cl K := cls_rowV _ _
theorem rS_get (M : List ByteArray) (i : Nat) (hi : i < M.length) (d : AV) : (rowV encS M).getD (0 + i * 1) d = sv (M.getD i nil0) := by
  have := row_getD (k := 1) encS_len M nil0 i hi 0 (by decide) (.string (M.getD i nil0)) rfl d
  simpa [sv] using this
/-! Rows of bytes. -/
def byv (b : UInt8) : AV := .v (.int .u8 b.toNat)
def encB (b : UInt8) : List Value := [.int .u8 b.toNat]
abbrev tByt : TypeId := 2 * 5
def rB (l : List UInt8) : AO := .cells (rowV encB l) tByt
def rB1 (l : List UInt8) : AO := .cells (rowV encB l) (tByt + 1)
def sB (i n : Nat) : AV := .slice i 0 n 1 (.lo n)
theorem encB_len (x : UInt8) : (encB x).length = 1 := rfl
theorem rB_len (M : List UInt8) : (rowV encB M).length = M.length := by rw [rowV_length (k := 1) encB_len, Nat.mul_one]
theorem rB_ren (σ : Nat → Nat) (L : List UInt8) : (rB L).ren σ = rB L := by simp only [rB, AO.ren, rens_rowV]
theorem rB1_ren (σ : Nat → Nat) (L : List UInt8) : (rB1 L).ren σ = rB1 L := by simp only [rB1, AO.ren, rens_rowV]
theorem rB_ow {x : List AV} {L : List UInt8} {e : TypeId} {σ : Nat → Nat} (h : x = rowV encB L) (he : e = tByt) : OW (.cells x e) ((rB L).ren σ) := by rw [rB_ren]; subst h he; exact OW.refl _
theorem rB1_ow {x : List AV} {L : List UInt8} {e : TypeId} {σ : Nat → Nat} (h : x = rowV encB L) (he : e = tByt + 1) : OW (.cells x e) ((rB1 L).ren σ) := by rw [rB1_ren]; subst h he; exact OW.refl _
theorem rB_cl (K : Nat → Bool) (L : List UInt8) : (rB L).cl K := cls_rowV _ _
theorem rB1_cl (K : Nat → Bool) (L : List UInt8) : (rB1 L).cl K := cls_rowV _ _
theorem rB_get (M : List UInt8) (i : Nat) (hi : i < M.length) (d : AV) : (rowV encB M).getD (0 + i * 1) d = byv (M.getD i 0) := by
  have := row_getD (k := 1) encB_len M 0 i hi 0 (by decide) (.int .u8 (M.getD i 0).toNat) rfl d
  simpa [byv] using this
theorem rB_lt (M : List UInt8) (i : Nat) (hi : i < M.length) : (0 + i * 1).blt (rowV encB M).length = true := by
  rw [rB_len, Nat.blt_eq]; omega
theorem rowB_map (l : List UInt8) : rowV encB l = vmap (l.map fun b => .int .u8 b.toNat) := by
  unfold rowV
  congr 1
  induction l with
  | nil => rfl
  | cons a l ih => rw [List.flatMap_cons, List.map_cons, ih]; rfl
theorem ltTN {j n : Nat} (h : j < n) : decide (Int.ofNat j < Int.ofNat n) = true := decide_eq_true (by simp only [Int.ofNat_eq_natCast]; omega)
theorem ltFN {j n : Nat} (h : n ≤ j) : decide (Int.ofNat j < Int.ofNat n) = false := decide_eq_false (by simp only [Int.ofNat_eq_natCast]; omega)
theorem ble_of {a b : Nat} (h : a ≤ b) : a.ble b = true := by rw [Nat.ble_eq]; exact h
/-! Small laws. -/
theorem VAll.ite {α : Type} {Q : α → List (Option AO) → Nat → Prop} {b : Bool} {x y : VT α} (h1 : b = true → VAll Q x) (h2 : b = false → VAll Q y) : VAll Q (.ite b x y) := ⟨⟨fun h => (h1 h).out, fun h => (h2 h).out⟩⟩
theorem ba_ext {a b : ByteArray} (h : a.data.toList = b.data.toList) : a = b := ByteArray.ext (Array.toList_inj.1 h)
theorem ba_toList (s : ByteArray) : s.toList = s.data.toList := ByteArray.toList_eq s
theorem ba_eq (a b : ByteArray) : (a.toList == b.toList) = decide (a = b) := by
  rw [ba_toList, ba_toList]
  by_cases h : a = b
  · subst h; simp
  · rw [decide_eq_false h, beq_eq_false_iff_ne]
    exact fun e => h (ba_ext e)
end Go.Proofs.YtpijbbobejeemaaGreatDoor.Kit

/- Functions that hand back a value and leave what was there as it was: contracts from the library's laws. -/
set_option linter.unusedVariables false
set_option linter.unusedSimpArgs false
namespace Go.Proofs.YtpijbbobejeemaaGreatDoor.Kit
open Go Go.RowKit Go.Proofs.YtpijbbobejeemaaGreatDoor.Eng
noncomputable section
def Stays (W w : World) : Prop := ∀ (b : Nat) (o : Obj), W.heap[b]? = some o → w.heap[b]? = some o
theorem Stays.cell {W w : World} (h : Stays W w) {a : Addr} {v : Value} (hv : W.cell? a = some v) : w.cell? a = some v := cell_of_block h a v hv
theorem Stays.tab {W w : World} (h : Stays W w) {P : Program} {n : String} {k : IntKind} {zs : List Int} (ht : Lib.TabIs P W n k zs) : Lib.TabIs P w n k zs := by
  unfold Lib.TabIs World.var? at *
  cases hg : P.globalNamed n with
  | none => rw [hg] at ht; cases ht
  | some g =>
    rw [hg] at ht
    simp only [Option.bind_some] at ht ⊢
    cases hb : W.heap[g]? with
    | none => rw [hb] at ht; cases ht
    | some o => rw [hb] at ht; rw [h _ _ hb]; exact ht
def vC {π : Type} (get : List AV → Option π) (pre : π → Prop) (val : π → AV) : List AV → Option (AP AV) :=
  fun args => match get args with
  | some p => some (.need (pre p) (.ret (val p)))
  | none => some (.fail "arguments")
theorem vC_ok {W : World} {F : HP} (hF : OldOK W F) {f : FuncId} {π : Type} {get : List AV → Option π} {pre : π → Prop} {val : π → AV} (args : π → List Value) (res : π → Value)
    (hg : ∀ A p, get A = some p → A = vmap (args p)) (hv : ∀ p N, VR N (val p) (res p))
    (h : ∀ p, pre p → ∀ w, Stays W w → Calls Tryz.prog f (args p).toArray w fun e w' => e = .returned (res p) ∧ Below w.heap.size w w') : C1OK Tryz.prog F f (vC get pre val) := by
  intro st W0 N h0 w A vargs v h' n n' lg lg' c q hp he hc r ha hf
  unfold vC at hp
  split at hp
  · rename_i p hg1
    cases hp
    obtain ⟨c1, e1, rfl⟩ := run_need he
    obtain ⟨rfl, rfl, rfl⟩ := inv_ret e1
    obtain ⟨hpre, hc1⟩ := (Cnd.and_iff _ _).1 hc
    have hA := hg _ _ hg1
    subst hA
    have : vargs = (args p).toArray := by
      have := ha.of_vmap
      rw [← this]
    subst this
    obtain ⟨D0, D, h1, h2, h3⟩ := r.sat
    refine (h p hpre w (hF D0 w h1)).mono ?_
    rintro e w' ⟨rfl, hb⟩
    exact ⟨_, N, rfl, r.below hb, hv p N, fun _ _ => rfl⟩
  · cases hp
    cases he
def g1s : List AV → Option ByteArray
  | [.v (.string s)] => some s
  | _ => none
def g2s : List AV → Option (ByteArray × ByteArray)
  | [.v (.string s), .v (.string t)] => some (s, t)
  | _ => none
theorem g1s_spec (A : List AV) (p : ByteArray) (h : g1s A = some p) : A = vmap [.string p] := by
  unfold g1s at h
  split at h
  · cases h; rfl
  · cases h
theorem g2s_spec (A : List AV) (p : ByteArray × ByteArray) (h : g2s A = some p) : A = vmap [.string p.1, .string p.2] := by
  unfold g2s at h
  split at h
  · cases h; rfl
  · cases h
theorem vr_v (N : Names) (x : Value) : VR N (.v x) x := VR_v.2 rfl
/-! Slices of our own memory that are read. -/
theorem rep_span {W0 w : World} {N : Names} {F : HP} {h : T} (r : Rep W0 N F h w) {i off len : Nat} {cap : Cp} {cs : List AV} {e : TypeId} {y : Value} (hi : h.find i = some (.cells cs e)) (hy : VR N (.slice i off len 1 cap) y) :
    ∃ b x c, y = .slice (some ⟨b, x, none⟩) len c ∧ len ≤ c ∧ b < w.heap.size ∧ ∀ (j : Nat) (a : AV), j < len → cs[off + j]? = some a → ∃ v, w.cell? ⟨b, x + j, none⟩ = some v ∧ VR N a v := by
  obtain ⟨D, hO⟩ := r.obj hi
  obtain ⟨l, arr, fz, h1, h2, h3, h4, h5, h6, h7, h8⟩ := hO
  simp only [VR] at hy
  obtain ⟨l', x, c, q1, q2, q3, q4, q5, q6⟩ := hy
  rw [h1] at q1
  cases q1
  refine ⟨l.blk, x, c, q2, q6, (Array.getElem?_eq_some_iff.1 h3).1, fun j a hj ha => ?_⟩
  rcases q3 with rfl | rfl
  · obtain ⟨v, hv, hV⟩ := h7.get ha
    refine ⟨v, ?_, hV⟩
    have hlt : off + j < cs.length := (List.getElem?_eq_some_iff.1 ha).1
    rw [List.getElem?_take_of_lt hlt, List.getElem?_drop] at hv
    simp only [World.cell?, h3]
    rw [← Nat.add_assoc] at hv
    simpa using hv
  · omega
def strsOf (l : List AV) : List ByteArray := l.map AV.strOf
def rowStrC (pre : List ByteArray → ByteArray → Prop) (val : List ByteArray → ByteArray → AV) : List AV → Option (AP AV) := fun args => match args with
  | [.slice i off len sz _, .v (.string t)] => some (.read i fun o => match o with
    | .cells cs _ => .need (sz = 1 ∧ List.take len (List.drop off cs) = (strsOf (List.take len (List.drop off cs))).map sv ∧ (strsOf (List.take len (List.drop off cs))).length = len) (.need (pre (strsOf (List.take len (List.drop off cs))) t) (.ret (val (strsOf (List.take len (List.drop off cs))) t)))
    | _ => .fail "row")
  | _ => some (.fail "row")
theorem rowStrC_ok {W : World} {F : HP} (hF : OldOK W F) {f : FuncId} {pre : List ByteArray → ByteArray → Prop} {val : List ByteArray → ByteArray → AV} (res : List ByteArray → ByteArray → Value) (hv : ∀ xs t N, VR N (val xs t) (res xs t))
    (hc : ∀ xs t, pre xs t → ∀ w, Stays W w → ∀ bk o c, (∀ (j : Nat) x, xs[j]? = some x → w.cell? ⟨bk, o + j, none⟩ = some (.string x)) → bk < w.heap.size → xs.length ≤ c →
      Calls Tryz.prog f #[.slice (some ⟨bk, o, none⟩) xs.length c, .string t] w fun e w' => e = .returned (res xs t) ∧ Below w.heap.size w w') : C1OK Tryz.prog F f (rowStrC pre val) := by
  intro st W0 N h0 w A vargs v h' n n' lg lg' c q hp he hcc r ha hf
  unfold rowStrC at hp
  split at hp
  · rename_i i off len sz cap t
    cases hp
    obtain ⟨o, ho, e1⟩ := run_read he
    cases o with
    | cells cs e =>
      simp only at e1
      obtain ⟨c1, e2, rfl⟩ := run_need e1
      obtain ⟨⟨rfl, hrow, hlen⟩, hc1⟩ := (Cnd.and_iff _ _).1 hcc
      obtain ⟨c2, e3, rfl⟩ := run_need e2
      obtain ⟨hpre, hc2⟩ := (Cnd.and_iff _ _).1 hc1
      obtain ⟨rfl, rfl, rfl⟩ := inv_ret e3
      generalize hxs : strsOf (List.take len (List.drop off cs)) = xs at *
      obtain ⟨y1, r1, h1, ⟨y2, r2, h2, rfl, rfl⟩, hl⟩ := (by simpa only [VRs] using ha : ∃ y r, VR N (.slice i off len 1 cap) y ∧ (∃ y2 r2, VR N (.v (.string t)) y2 ∧ r2 = [] ∧ r = y2 :: r2) ∧ vargs.toList = y :: r)
      have h2 := VR_v.1 h2
      subst h2
      obtain ⟨b, x, cc, rfl, k2, k3, k4⟩ := rep_span r ho h1
      have hva : vargs = #[.slice (some ⟨b, x, none⟩) xs.length cc, .string t] := by
        apply Array.ext'
        rw [hl, hlen]
      subst hva
      obtain ⟨D0, D, p1, p2, p3⟩ := r.sat
      refine (hc xs t hpre w (hF D0 w p1) b x cc (fun j z hz => ?_) k3 (by omega)).mono ?_
      · have hj : j < len := by rw [← hlen]; exact (List.getElem?_eq_some_iff.1 hz).1
        have : (List.take len (List.drop off cs))[j]? = some (sv z) := by rw [hrow, List.getElem?_map, hz]; rfl
        rw [List.getElem?_take_of_lt hj, List.getElem?_drop] at this
        obtain ⟨v, hv1, hv2⟩ := k4 j _ hj this
        rw [hv1]
        exact congrArg some (VR_v.1 hv2)
      · rintro e w' ⟨rfl, hb⟩
        exact ⟨_, N, rfl, r.below hb, hv xs t N, fun _ _ => rfl⟩
    | _ => cases e1
  · cases hp
    cases he
def u8V (z : Int) : AV := .v (.int .u8 z)
theorem rep_bytes {W0 w : World} {N : Names} {F : HP} {h : T} (r : Rep W0 N F h w) {i off n : Nat} {cap : Cp} {cs : List AV} {e : TypeId} {y : Value} {xs : List Int} (hi : h.find i = some (.cells cs e)) (hy : VR N (.slice i off n 1 cap) y)
    (hx : List.take n (List.drop off cs) = xs.map u8V) (hn : xs.length = n) :
    ∃ b x c, y = .slice (some ⟨b, x, none⟩) n c ∧ n ≤ c ∧ b < w.heap.size ∧ ∀ j, j < n → w.cell? ((⟨b, x, none⟩ : Addr).add j) = some (.int .u8 (xs.getD j 0)) := by
  obtain ⟨b, x, c, rfl, k2, k3, k4⟩ := rep_span r hi hy
  refine ⟨b, x, c, rfl, k2, k3, fun j hj => ?_⟩
  have h1 : (List.take n (List.drop off cs))[j]? = some (u8V (xs.getD j 0)) := by
    rw [hx, List.getElem?_map, List.getD_eq_getElem?_getD]
    cases hg : xs[j]? with
    | none => have := List.getElem?_eq_none_iff.1 hg; omega
    | some z => rfl
  rw [List.getElem?_take_of_lt hj, List.getElem?_drop] at h1
  obtain ⟨v, hv1, hv2⟩ := k4 j _ hj h1
  rw [add_lit, hv1]
  exact congrArg some (VR_v.1 hv2)
theorem bytesOf_spec : ∀ {l : List AV} {xs : List Int}, bytesOf l = some xs → l = xs.map u8V
  | [], xs, h => by simp only [bytesOf, Option.some.injEq] at h; subst h; rfl
  | a :: l, xs, h => by
    unfold bytesOf at h
    split at h
    · rename_i heq; cases heq
    · rename_i n r heq
      cases heq
      split at h
      · rename_i t ht
        cases h
        rw [bytesOf_spec ht]
        rfl
      · cases h
    · cases h
theorem isByte_spec {z : Int} (h : isByte z = true) : 0 ≤ z ∧ z < 256 := by
  unfold isByte at h
  split at h
  · rename_i k
    rw [Nat.blt_eq] at h
    exact ⟨by simp, by simp only [Int.ofNat_eq_natCast]; omega⟩
  · cases h
def row2K (pre : List Int → List Int → Bool) (val : List Int → List Int → AV) : List AV → Option (AP AV) := fun args => match args with
  | [.slice i off n sz _, .slice j off2 k sz2 _] => some (.read i fun o => match o with
    | .cells cs _ => .read j fun o2 => match o2 with
      | .cells ds _ => (match bytesOf (List.take n (List.drop off cs)), bytesOf (List.take k (List.drop off2 ds)) with
        | some xs, some ys => (match Nat.beq sz 1 && (Nat.beq sz2 1 && (Nat.beq xs.length n && (Nat.beq ys.length k && (xs.all isByte && (ys.all isByte && pre xs ys))))) with
          | true => .ret (val xs ys)
          | false => .fail "bytes")
        | _, _ => .fail "bytes")
      | _ => .fail "bytes"
    | _ => .fail "bytes")
  | _ => some (.fail "bytes")
theorem row2K_ok {W : World} {F : HP} (hF : OldOK W F) {f : FuncId} {pre : List Int → List Int → Bool} {val : List Int → List Int → AV} (res : List Int → List Int → Value) (hv : ∀ xs ys N, VR N (val xs ys) (res xs ys))
    (hc : ∀ xs ys, pre xs ys = true → (∀ z ∈ xs, 0 ≤ z ∧ z < 256) → (∀ z ∈ ys, 0 ≤ z ∧ z < 256) → ∀ w, Stays W w → ∀ b x c b2 x2 c2, xs.length ≤ c → ys.length ≤ c2 →
      (∀ j, j < xs.length → w.cell? ((⟨b, x, none⟩ : Addr).add j) = some (.int .u8 (xs.getD j 0))) → (∀ j, j < ys.length → w.cell? ((⟨b2, x2, none⟩ : Addr).add j) = some (.int .u8 (ys.getD j 0))) →
      Calls Tryz.prog f #[.slice (some ⟨b, x, none⟩) xs.length c, .slice (some ⟨b2, x2, none⟩) ys.length c2] w fun e w' => e = .returned (res xs ys) ∧ Below w.heap.size w w') : C1OK Tryz.prog F f (row2K pre val) := by
  intro st W0 N h0 w A vargs v h' n n' lg lg' c q hp he hcc r ha hf
  unfold row2K at hp
  split at hp
  · rename_i i off m sz cap j off2 k sz2 cap2
    cases hp
    obtain ⟨o, ho, e1⟩ := run_read he
    cases o with
    | cells cs e =>
      obtain ⟨o2, ho2, e2⟩ := run_read e1
      cases o2 with
      | cells ds e' =>
        simp only at e2
        split at e2
        · rename_i xs ys hx hy
          split at e2
          · rename_i hg
            obtain ⟨rfl, rfl, rfl⟩ := inv_ret e2
            simp only [Bool.and_eq_true] at hg
            obtain ⟨g1, g2, g3, g4, g5, g6, g7⟩ := hg
            have g1 := Nat.eq_of_beq_eq_true g1
            have g2 := Nat.eq_of_beq_eq_true g2
            have g3 := Nat.eq_of_beq_eq_true g3
            have g4 := Nat.eq_of_beq_eq_true g4
            subst g1 g2 g3 g4
            obtain ⟨y1, r1, h1, ⟨y2, r2, h2, rfl, rfl⟩, hl⟩ := (by simpa only [VRs] using ha : ∃ y r, VR N (.slice i off xs.length 1 cap) y ∧ (∃ y2 r2, VR N (.slice j off2 ys.length 1 cap2) y2 ∧ r2 = [] ∧ r = y2 :: r2) ∧ vargs.toList = y :: r)
            obtain ⟨b, x, cc, rfl, k2, k3, k4⟩ := rep_bytes r ho h1 (bytesOf_spec hx) rfl
            obtain ⟨b2, x2, cc2, rfl, k5, k6, k7⟩ := rep_bytes r ho2 h2 (bytesOf_spec hy) rfl
            have hva : vargs = #[.slice (some ⟨b, x, none⟩) xs.length cc, .slice (some ⟨b2, x2, none⟩) ys.length cc2] := by
              apply Array.ext'
              rw [hl]
            subst hva
            obtain ⟨D0, D, p1, p2, p3⟩ := r.sat
            refine (hc xs ys g7 (fun z hz => isByte_spec (List.all_eq_true.1 g5 z hz)) (fun z hz => isByte_spec (List.all_eq_true.1 g6 z hz)) w (hF D0 w p1) b x cc b2 x2 cc2 k2 k5 k4 k7).mono ?_
            rintro e w' ⟨rfl, hb⟩
            exact ⟨_, N, rfl, r.below hb, hv xs ys N, fun _ _ => rfl⟩
          · cases e2
        · cases e2
      | _ => cases e2
    | _ => cases e1
  · cases hp
    cases he
def kC {π : Type} (get : List AV → Option π) (pre : π → Bool) (val : π → AV) : List AV → Option (AP AV) :=
  fun args => match get args with
  | some p => (match pre p with
    | true => some (.ret (val p))
    | false => some (.fail "arguments"))
  | none => some (.fail "arguments")
theorem kC_ok {F : HP} {f : FuncId} {π : Type} {get : List AV → Option π} {pre : π → Bool} {pre' : π → Prop} {val : π → AV} (h : C1OK Tryz.prog F f (vC get pre' val)) (hp : ∀ p, pre p = true → pre' p) : C1OK Tryz.prog F f (kC get pre val) := by
  intro st W0 N h0 w A vargs v h' n n' lg lg' c q hq he hc r ha hf
  unfold kC at hq
  split at hq
  · rename_i p hg1
    split at hq
    · rename_i hpre
      cases hq
      obtain ⟨rfl, rfl, rfl⟩ := inv_ret he
      have hv : vC get pre' val A = some (.need (pre' p) (.ret (val p))) := by unfold vC; rw [hg1]
      exact h st W0 N _ w A vargs _ _ _ _ lg lg ((Cnd.p (pre' p)).and .t) _ hv rfl ((Cnd.and_iff _ _).2 ⟨hp p hpre, trivial⟩) r ha hf
    · cases hq
      cases he
  · cases hq
    cases he
def strsA : List AV → Option (List ByteArray)
  | [] => some []
  | .v (.string s) :: l => (match strsA l with
    | some r => some (s :: r)
    | none => none)
  | _ => none
def rowStrK (pre : List ByteArray → ByteArray → Bool) (val : List ByteArray → ByteArray → AV) : List AV → Option (AP AV) := fun args => match args with
  | [.slice i off len sz _, .v (.string t)] => some (.read i fun o => match o with
    | .cells cs _ => (match strsA (List.take len (List.drop off cs)) with
      | some xs => (match Nat.beq sz 1 && (Nat.beq xs.length len && pre xs t) with
        | true => .ret (val xs t)
        | false => .fail "row")
      | none => .fail "row")
    | _ => .fail "row")
  | _ => some (.fail "row")
theorem strsA_spec : ∀ {l : List AV} {xs : List ByteArray}, strsA l = some xs → l = xs.map sv ∧ xs = strsOf l
  | [], xs, h => by simp only [strsA, Option.some.injEq] at h; subst h; exact ⟨rfl, rfl⟩
  | a :: l, xs, h => by
    unfold strsA at h
    split at h
    · rename_i heq; cases heq
    · rename_i s r heq
      cases heq
      split at h
      · rename_i t ht
        cases h
        obtain ⟨q1, q2⟩ := strsA_spec ht
        refine ⟨by rw [List.map_cons, ← q1]; rfl, ?_⟩
        rw [strsOf, List.map_cons]
        exact congrArg (_ :: ·) q2
      · cases h
    · cases h
theorem rowStrK_ok {F : HP} {f : FuncId} {pre : List ByteArray → ByteArray → Bool} {pre' : List ByteArray → ByteArray → Prop} {val : List ByteArray → ByteArray → AV} (h : C1OK Tryz.prog F f (rowStrC pre' val)) (hp : ∀ xs t, pre xs t = true → pre' xs t) : C1OK Tryz.prog F f (rowStrK pre val) := by
  intro st W0 N h0 w A vargs v h' n n' lg lg' c q hq he hc r ha hf
  unfold rowStrK at hq
  split at hq
  · rename_i i off len sz cap t
    cases hq
    obtain ⟨o, ho, e1⟩ := run_read he
    cases o with
    | cells cs e =>
      simp only at e1
      split at e1
      · rename_i xs hx
        split at e1
        · rename_i hg
          obtain ⟨rfl, rfl, rfl⟩ := inv_ret e1
          simp only [Bool.and_eq_true] at hg
          obtain ⟨q1, q2⟩ := strsA_spec hx
          have g1 := Nat.eq_of_beq_eq_true hg.1
          have g2 := Nat.eq_of_beq_eq_true hg.2.1
          subst g1
          refine h st W0 N _ w [.slice i off len 1 cap, .v (.string t)] vargs (val xs t) _ _ _ lg ((i, false) :: lg) ((Cnd.p (1 = 1 ∧ List.take len (List.drop off cs) = (strsOf (List.take len (List.drop off cs))).map sv ∧ (strsOf (List.take len (List.drop off cs))).length = len)).and ((Cnd.p (pre' (strsOf (List.take len (List.drop off cs))) t)).and .t)) _ rfl ?_ ?_ r ha hf
          · simp only [AP.run, ho]
            rw [q2]
            rfl
          · rw [← q2]
            exact (Cnd.and_iff _ _).2 ⟨⟨rfl, q1, g2⟩, (Cnd.and_iff _ _).2 ⟨hp _ _ hg.2.2, trivial⟩⟩
        · cases e1
      · cases e1
    | _ => cases e1
  · cases hq
    cases he
end
end Go.Proofs.YtpijbbobejeemaaGreatDoor.Kit

/- Http: what the library's functions hand back, as contracts. -/
set_option linter.unusedVariables false
set_option linter.unusedSimpArgs false
set_option maxRecDepth 100000
namespace Go.Proofs.YtpijbbobejeemaaGreatDoor.Htp
open Go Go.RowKit Go.Proofs.YtpijbbobejeemaaGreatDoor.Eng Go.Proofs.YtpijbbobejeemaaGreatDoor.Kit
noncomputable section
theorem below_dn {B : Nat} {a w : World} (h : Below B a w) (q : Nat) : Below B a (w.drewN q) := ⟨h.os, h.tape, h.output, h.size, h.block⟩
structure LW (W : World) : Prop where
  maxLen : ∃ m, W.cell? ⟨0, 0, none⟩ = some (.int .i64 m)
  pows : Lib.TabIs Tryz.prog W "internal/strconv.uint64pow10" .u64 Lib.pow10Tab
def tB (l : List UInt8) : ByteArray := ⟨l.toArray⟩
theorem tB_data (l : List UInt8) : (tB l).data.toList = l := by simp [tB]
theorem tB_size (l : List UInt8) : (tB l).size = l.length := by simp [tB, ByteArray.size]
def joinB (xs : List ByteArray) (sep : ByteArray) : ByteArray := tB (Lib.join (xs.map (·.data.toList)) sep.data.toList)
def cut1 (s t : ByteArray) : ByteArray := tB (Lib.cut s.data.toList t.data.toList).1
def cut2 (s t : ByteArray) : ByteArray := tB (Lib.cut s.data.toList t.data.toList).2.1
def cutK (s t : ByteArray) : Bool := (Lib.cut s.data.toList t.data.toList).2.2
def asciiB (s : ByteArray) : Prop := ∀ (j : Nat) b, s.data.toList[j]? = some b → b.toNat < 128
abbrev fJoin : Nat := 40
abbrev fCut : Nat := 45
variable {W : World} {F : HP}
def cJoin : List AV → Option (AP AV) := rowStrC (fun xs t => xs.length ≤ 140737488355328 ∧ (Lib.join (xs.map (·.data.toList)) t.data.toList).length ≤ 140737488355328) (fun xs t => sv (joinB xs t))
theorem cJoin_ok (hF : OldOK W F) : C1OK Tryz.prog F fJoin cJoin :=
  rowStrC_ok hF (fun xs t => .string (joinB xs t)) (fun xs t N => vr_v N _) fun xs t h w hw bk o c h1 h2 h3 => Tryz.strings_Join bk o c xs t w h1 h2 h.1 h3 h.2
theorem vr_t2 (N : Names) (a b : Value) : VR N (.tuple [.v a, .v b]) (.tuple #[a, b]) := by
  simp only [VR, VRs]
  exact ⟨[a, b], ⟨a, [b], rfl, ⟨b, [], rfl, rfl, rfl⟩, rfl⟩, rfl⟩
theorem vr_t3 (N : Names) (a b c : Value) : VR N (.tuple [.v a, .v b, .v c]) (.tuple #[a, b, c]) := by
  simp only [VR, VRs]
  exact ⟨[a, b, c], ⟨a, [b, c], rfl, ⟨b, [c], rfl, ⟨c, [], rfl, rfl, rfl⟩, rfl⟩, rfl⟩, rfl⟩
def cCut : List AV → Option (AP AV) := vC g2s (fun p => p.1.size < 4294967281) (fun p => .tuple [sv (cut1 p.1 p.2), sv (cut2 p.1 p.2), bv (cutK p.1 p.2)])
theorem cCut_ok (hW : LW W) (hF : OldOK W F) : C1OK Tryz.prog F fCut cCut :=
  vC_ok hF (fun p => [.string p.1, .string p.2]) (fun p => .tuple #[.string (cut1 p.1 p.2), .string (cut2 p.1 p.2), .bool (cutK p.1 p.2)]) g2s_spec (fun p N => vr_t3 N _ _ _) fun p hp w hw => by
    obtain ⟨m, hm⟩ := hW.maxLen
    exact (Tryz.strings_Cut p.1 p.2 m w hp (hw.cell hm)).mono fun e w' ⟨h1, k, h2⟩ => ⟨h1, by rw [h2]; exact below_dn (Below.refl _ _) k⟩
end
end Go.Proofs.YtpijbbobejeemaaGreatDoor.Htp

/- Http: base 64: runs. -/
set_option linter.unusedVariables false
set_option linter.unusedSimpArgs false
set_option maxRecDepth 100000
namespace Go.Proofs.YtpijbbobejeemaaGreatDoor.Htp
open Go Go.RowKit Go.Proofs.YtpijbbobejeemaaGreatDoor.Eng Go.Proofs.YtpijbbobejeemaaGreatDoor.Kit
noncomputable section
abbrev fB64 : Nat := 44
abbrev fEnc : Nat := 21
def nilB : AV := .v (.slice none 0 0)
def hB (core : ByteArray) (bits : Nat) : ClaimT := hintL [(fB64, 1, 3, hv (.lit false)), (fB64, 3, 1, hv (sv core)), (fB64, 4, 5, hv (.lit false)), (fB64, 7, 1, ho 1100 (rB1 core.data.toList)), (fB64, 18, 3, hv (iv (Int.ofNat (2 ^ bits)))), (fB64, 18, 4, hv (iv (Int.ofNat (2 ^ bits - 1)))), (fB64, 18, 5, hv (iv 0)), (fB64, 18, 6, hv (.lit true)), (fB64, 18, 9, hv (.lit true))]
end
end Go.Proofs.YtpijbbobejeemaaGreatDoor.Htp

/- Http: base 64: what is written is read again. Plain laws. No program. -/
set_option linter.unusedVariables false
set_option linter.unusedSimpArgs false
namespace Go.Proofs.YtpijbbobejeemaaGreatDoor.Htp
def alpha : List UInt8 := [65,66,67,68,69,70,71,72,73,74,75,76,77,78,79,80,81,82,83,84,85,86,87,88,89,90,97,98,99,100,101,102,103,104,105,106,107,108,109,110,111,112,113,114,115,116,117,118,119,120,121,122,48,49,50,51,52,53,54,55,56,57,43,47]
def letter (k : Nat) : UInt8 := alpha.getD k 0
def n3 (a b c : UInt8) : Nat := a.toNat * 65536 + b.toNat * 256 + c.toNat
end Go.Proofs.YtpijbbobejeemaaGreatDoor.Htp

/- Http: base 64: what the loop and the function hand back. -/
set_option linter.unusedVariables false
set_option linter.unusedSimpArgs false
set_option maxRecDepth 100000
namespace Go.Proofs.YtpijbbobejeemaaGreatDoor.Htp
open Go Go.RowKit Go.Proofs.YtpijbbobejeemaaGreatDoor.Eng Go.Proofs.YtpijbbobejeemaaGreatDoor.Kit
/-! The loop's states. -/
end Go.Proofs.YtpijbbobejeemaaGreatDoor.Htp

/- Http: the document's writing in base 64: runs. -/
set_option linter.unusedVariables false
set_option linter.unusedSimpArgs false
set_option maxRecDepth 100000
namespace Go.Proofs.YtpijbbobejeemaaGreatDoor.Htp
open Go Go.RowKit Go.Proofs.YtpijbbobejeemaaGreatDoor.Eng Go.Proofs.YtpijbbobejeemaaGreatDoor.Kit
noncomputable section
def hE (i : Nat) (a b c : UInt8) (n1 n2 n12 n u v x y z w : Nat) (two three : Bool) : ClaimT := hintL [(fEnc, 4, 3, hv (.lit true)), (fEnc, 6, 3, hv (byv a)), (fEnc, 6, 4, hv (iv (Int.ofNat a.toNat))), (fEnc, 6, 5, hv (iv (Int.ofNat n1))),
  (fEnc, 7, 1, hv (iv (Int.ofNat (i + 1)))), (fEnc, 7, 4, hv (.lit two)), (fEnc, 8, 3, hv (iv (Int.ofNat (i + 1)))), (fEnc, 8, 5, hv (byv b)), (fEnc, 8, 6, hv (iv (Int.ofNat b.toNat))), (fEnc, 8, 7, hv (iv (Int.ofNat n2))), (fEnc, 8, 8, hv (iv (Int.ofNat n12))),
  (fEnc, 9, 1, hv (iv (Int.ofNat (i + 2)))), (fEnc, 9, 4, hv (.lit three)), (fEnc, 10, 3, hv (iv (Int.ofNat (i + 2)))), (fEnc, 10, 5, hv (byv c)), (fEnc, 10, 6, hv (iv (Int.ofNat c.toNat))), (fEnc, 10, 7, hv (iv (Int.ofNat n))),
  (fEnc, 11, 3, hv (iv (Int.ofNat x))), (fEnc, 11, 4, h0v (byv (letter x))), (fEnc, 11, 7, hv (iv (Int.ofNat u))), (fEnc, 11, 8, hv (iv (Int.ofNat y))), (fEnc, 11, 9, h0v (byv (letter y))),
  (fEnc, 12, 1, hv (iv (Int.ofNat (i + 1)))), (fEnc, 12, 4, hv (.lit two)), (fEnc, 13, 3, hv (iv (Int.ofNat v))), (fEnc, 13, 4, hv (iv (Int.ofNat z))), (fEnc, 13, 5, h0v (byv (letter z))),
  (fEnc, 15, 1, hv (iv (Int.ofNat (i + 2)))), (fEnc, 15, 4, hv (.lit three)), (fEnc, 16, 3, hv (iv (Int.ofNat w))), (fEnc, 16, 4, h0v (byv (letter w))), (fEnc, 5, 1, hv (iv (Int.ofNat (i + 3))))]
end
end Go.Proofs.YtpijbbobejeemaaGreatDoor.Htp

/- Http: the document's writing in base 64. -/
set_option linter.unusedVariables false
set_option linter.unusedSimpArgs false
set_option maxRecDepth 100000
namespace Go.Proofs.YtpijbbobejeemaaGreatDoor.Htp
open Go Go.RowKit Go.Proofs.YtpijbbobejeemaaGreatDoor.Eng Go.Proofs.YtpijbbobejeemaaGreatDoor.Kit
end Go.Proofs.YtpijbbobejeemaaGreatDoor.Htp

/- Http: base 64: the function. -/
set_option linter.unusedVariables false
set_option linter.unusedSimpArgs false
set_option maxRecDepth 100000
namespace Go.Proofs.YtpijbbobejeemaaGreatDoor.Htp
open Go Go.RowKit Go.Proofs.YtpijbbobejeemaaGreatDoor.Eng Go.Proofs.YtpijbbobejeemaaGreatDoor.Kit
end Go.Proofs.YtpijbbobejeemaaGreatDoor.Htp

/- Http: the document's examples, a closed run. -/
set_option linter.unusedVariables false
set_option linter.unusedSimpArgs false
namespace Go.Proofs.YtpijbbobejeemaaGreatDoor.Htp
open Go Go.RowKit Go.Proofs.YtpijbbobejeemaaGreatDoor.Eng Go.Proofs.YtpijbbobejeemaaGreatDoor.Kit
abbrev fSpeaks : Nat := 8
abbrev fBIndex : Nat := 49
abbrev fSIndex : Nat := 82
abbrev fLower : Nat := 58
section
variable {W : World} {F : HP}
def ixF (sub : List UInt8) : List UInt8 → Nat → Int
  | [], k => match sub with
    | [] => Int.ofNat k
    | _ :: _ => -1
  | b :: l, k => match sub.isPrefixOf (b :: l) with
    | true => Int.ofNat k
    | false => ixF sub l (k + 1)
theorem ixF_eq (sub : List UInt8) : ∀ (l : List UInt8) (k : Nat), ixF sub l k = if Lib.index l sub = -1 then -1 else Lib.index l sub + k
  | [], k => by
    cases sub with
    | nil => simp [ixF, Lib.index]
    | cons a r => simp [ixF, Lib.index]
  | b :: l, k => by
    rw [ixF, Lib.index]
    cases h : sub.isPrefixOf (b :: l) with
    | true => simp
    | false =>
      have hg := Lib.index_ge l sub
      rw [ixF_eq sub l (k + 1)]
      simp only [Bool.false_eq_true, if_false]
      by_cases h1 : Lib.index l sub = -1
      · simp [h1]
      · rw [if_neg h1]
        have h2 : (Lib.index l sub == -1) = false := by simpa using h1
        rw [h2]
        simp only [Bool.false_eq_true, if_false]
        rw [if_neg (by omega)]
        omega
theorem ixF_index (sub l : List UInt8) : ixF sub l 0 = Lib.index l sub := by
  rw [ixF_eq]
  split
  · rename_i h; rw [h]
  · simp
def cIdxS : List AV → Option (AP AV) := vC g2s (fun p => p.1.size < 4294967281) (fun p => iv (ixF p.2.data.toList p.1.data.toList 0))
theorem cIdxS_ok (hW : LW W) (hF : OldOK W F) : C1OK Tryz.prog F fSIndex cIdxS :=
  vC_ok hF (fun p => [.string p.1, .string p.2]) (fun p => .int .i64 (ixF p.2.data.toList p.1.data.toList 0)) g2s_spec (fun p N => vr_v N _) fun p hp w hw => by
    obtain ⟨m, hm⟩ := hW.maxLen
    exact (Tryz.strings_Index p.1 p.2 m w hp (hw.cell hm)).mono fun e w' ⟨h1, h2⟩ => ⟨by rw [h1, ixF_index], by rw [h2]; exact Below.refl _ _⟩
noncomputable def kIdxS : List AV → Option (AP AV) := kC g2s (fun p => Nat.blt p.1.size 4294967281) (fun p => iv (ixF p.2.data.toList p.1.data.toList 0))
theorem cIdxL_ok (hW : LW W) (hF : OldOK W F) : C1OK Tryz.prog F 103 cIdxS :=
  vC_ok hF (fun p => [.string p.1, .string p.2]) (fun p => .int .i64 (ixF p.2.data.toList p.1.data.toList 0)) g2s_spec (fun p N => vr_v N _) fun p hp w hw => by
    obtain ⟨m, hm⟩ := hW.maxLen
    exact (Tryz.stringslite_Index p.1 p.2 m w hp (hw.cell hm)).mono fun e w' ⟨h1, h2⟩ => ⟨by rw [h1, ixF_index], by rw [h2]; exact Below.refl _ _⟩
theorem kIdxL_ok (hW : LW W) (hF : OldOK W F) : C1OK Tryz.prog F 103 kIdxS := kC_ok (cIdxL_ok hW hF) fun p hp => by rw [Nat.blt_eq] at hp; exact hp
theorem kIdxS_ok (hW : LW W) (hF : OldOK W F) : C1OK Tryz.prog F fSIndex kIdxS := kC_ok (cIdxS_ok hW hF) fun p hp => by rw [Nat.blt_eq] at hp; exact hp
def lowB (s : ByteArray) : ByteArray := tB (Lib.toLowerA s.data.toList)
def cLow : List AV → Option (AP AV) := vC g1s (fun s => s.size ≤ 140737488355328 ∧ asciiB s) (fun s => sv (lowB s))
theorem cLow_ok (hF : OldOK W F) : C1OK Tryz.prog F fLower cLow :=
  vC_ok hF (fun s => [.string s]) (fun s => .string (lowB s)) g1s_spec (fun p N => vr_v N _) fun s hp w hw => Tryz.strings_ToLower_ascii s w hp.1 hp.2
def asciiK (s : ByteArray) : Bool := s.data.toList.all fun b => Nat.blt b.toNat 128
theorem asciiK_spec {s : ByteArray} (h : asciiK s = true) : asciiB s := fun j b hb => by
  have := List.all_eq_true.1 h b (List.mem_of_getElem? hb)
  rwa [Nat.blt_eq] at this
noncomputable def kLow : List AV → Option (AP AV) := kC g1s (fun s => Nat.ble s.size 140737488355328 && asciiK s) (fun s => sv (lowB s))
theorem kLow_ok (hF : OldOK W F) : C1OK Tryz.prog F fLower kLow := kC_ok (cLow_ok hF) fun s hp => by
  rw [Bool.and_eq_true, Nat.ble_eq] at hp
  exact ⟨hp.1, asciiK_spec hp.2⟩
noncomputable def kJoin : List AV → Option (AP AV) := rowStrK (fun xs t => Nat.ble xs.length 140737488355328 && Nat.ble (Lib.join (xs.map (·.data.toList)) t.data.toList).length 140737488355328) (fun xs t => sv (joinB xs t))
theorem kJoin_ok (hF : OldOK W F) : C1OK Tryz.prog F fJoin kJoin := rowStrK_ok (cJoin_ok hF) fun xs t hp => by
  rw [Bool.and_eq_true, Nat.ble_eq, Nat.ble_eq] at hp
  exact hp
noncomputable def kBIndex : List AV → Option (AP AV) := row2K (fun xs ys => Nat.blt xs.length 4294967281 && Nat.ble ys.length 9223372036854775807) (fun xs ys => iv (ixF (Lib.bytesOf ys) (Lib.bytesOf xs) 0))
theorem kBIndex_ok (hW : LW W) (hF : OldOK W F) : C1OK Tryz.prog F fBIndex kBIndex :=
  row2K_ok hF (fun xs ys => .int .i64 (ixF (Lib.bytesOf ys) (Lib.bytesOf xs) 0)) (fun xs ys N => vr_v N _) fun xs ys hp hx hy w hw b x c b2 x2 c2 l1 l2 h1 h2 => by
    obtain ⟨m, hm⟩ := hW.maxLen
    rw [Bool.and_eq_true, Nat.blt_eq, Nat.ble_eq] at hp
    exact (Tryz.bytes_Index_at ⟨b, x, none⟩ ⟨b2, x2, none⟩ xs.length c ys.length c2 xs ys m w rfl rfl hx hy h1 h2 l1 hp.1 hp.2 (hw.cell hm)).mono fun e w' ⟨q1, k, q2⟩ => ⟨by rw [q1, ixF_index], by rw [q2]; exact below_dn (Below.refl _ _) k⟩
theorem run_same {P : Program} {f : FuncId} {fn : Func} (hf : P.funcs[f]? = some fn) (hname : (fn.name == "runtime.NumGoroutine") = false)
    (hb : fn.body.isNone = true) (hn : (Extern.findNext fn).isNone = true) (he : Extern.find fn = some Extern.AbiNoEscape.same) (v : Value) (w : World) :
    (callFunc f #[v]).run P w = .ok (.value v) w := by
  rw [run_callFunc_extern hf hname hb (by simpa using hn) he]
  rfl
def cfg : Cfg := { strs := [], ints := [], same := [128], clone := [], laid := [(4, Lib.pow10Tab.map (Value.int .u64))] }
theorem cfg_ok : CfgOk Tryz.prog cfg where
  strs := fun x hx => by cases hx
  ints := fun x hx => by cases hx
  same := fun x hx => by
    obtain rfl := List.mem_singleton.1 hx
    exact run_same Tryz.func128 (by kernel_rfl) (by kernel_rfl) (by kernel_rfl) (by kernel_rfl)
  clone := fun x hx => by cases hx
theorem cfg_laid (hW : LW W) {w : World} (hw : Stays W w) : LaidOk cfg w := by
  intro x hx j v hj
  obtain rfl := List.mem_singleton.1 hx
  have ht := hw.tab hW.pows
  have hlt : j < Lib.pow10Tab.length := by
    have := (List.getElem?_eq_some_iff.1 hj).1
    simpa using this
  have := Lib.TabIs.cell ht (g := 4) (by kernel_rfl) j hlt
  rw [this]
  rw [List.getElem?_map] at hj
  cases hg : Lib.pow10Tab[j]? with
  | none => rw [hg] at hj; cases hj
  | some z =>
    rw [hg] at hj
    cases hj
    simp [List.getD_eq_getElem?_getD, hg]
noncomputable def clSp : ConL := [(fBIndex, kBIndex), (fSIndex, kIdxS), (103, kIdxS), (fLower, kLow), (fJoin, kJoin)]
theorem clSp_ok (hW : LW W) (hF : OldOK W F) : ∀ x ∈ clSp, C1OK Tryz.prog F x.1 x.2 :=
  con_cons (kBIndex_ok hW hF) (con_cons (kIdxS_ok hW hF) (con_cons (kIdxL_ok hW hF) (con_cons (kLow_ok hF) (con_cons (kJoin_ok hF) noC))))
set_option maxRecDepth 1000000 in
theorem speaks_calls (hW : LW W) {w : World} (hw : Stays W w) : Calls Tryz.prog fSpeaks (List.toArray []) w fun e w' => e = .returned (.bool true) ∧ Below w.heap.size w w' :=
  closed_callC (cl := clSp) (args := []) cfg_ok (by kernel_rfl) (fuel := 100000) (fun w => by kernel_rfl) (cfg_laid hW hw) (clSp_ok hW (fun D w' hF b o hv => old_here w D w' hF b o (hw b o hv)))
def gN : List AV → Option Unit
  | [] => some ()
  | _ => none
def cSpk : List AV → Option (AP AV) := vC gN (fun _ => True) (fun _ => bv true)
theorem cSpk_ok (hW : LW W) (hF : OldOK W F) : C1OK Tryz.prog F fSpeaks cSpk :=
  vC_ok hF (fun _ => []) (fun _ => .bool true) (fun A p h => by
    unfold gN at h
    split at h
    · rfl
    · cases h) (fun p N => vr_v N _) fun p _ w hw => speaks_calls hW hw
end
end Go.Proofs.YtpijbbobejeemaaGreatDoor.Htp

/- Http: HttpLets: runs. -/
set_option linter.unusedVariables false
set_option linter.unusedSimpArgs false
set_option maxRecDepth 100000
namespace Go.Proofs.YtpijbbobejeemaaGreatDoor.Htp
open Go Go.RowKit Go.Proofs.YtpijbbobejeemaaGreatDoor.Eng Go.Proofs.YtpijbbobejeemaaGreatDoor.Kit
noncomputable section
abbrev fGet : Nat := 42
end
end Go.Proofs.YtpijbbobejeemaaGreatDoor.Htp

/- Http: HttpLets. -/
set_option linter.unusedVariables false
set_option linter.unusedSimpArgs false
set_option maxRecDepth 100000
namespace Go.Proofs.YtpijbbobejeemaaGreatDoor.Htp
open Go Go.RowKit Go.Proofs.YtpijbbobejeemaaGreatDoor.Eng Go.Proofs.YtpijbbobejeemaaGreatDoor.Kit
/-! The loop over the user's name. -/
end Go.Proofs.YtpijbbobejeemaaGreatDoor.Htp

/- Http: texts cut into pieces, escapes, base 64: plain laws. No program. -/
set_option linter.unusedVariables false
set_option linter.unusedSimpArgs false
namespace Go.Proofs.YtpijbbobejeemaaGreatDoor.Htp
def cutL (x : UInt8) : List UInt8 → List (List UInt8)
  | [] => [[]]
  | c :: l => if c = x then [] :: cutL x l else match cutL x l with
    | [] => [[c]]
    | u :: r => (c :: u) :: r
def hexV (c : UInt8) : Option Nat :=
  if 48 ≤ c.toNat ∧ c.toNat ≤ 57 then some (c.toNat - 48)
  else if 97 ≤ c.toNat ∧ c.toNat ≤ 102 then some (c.toNat - 97 + 10)
  else if 65 ≤ c.toNat ∧ c.toNat ≤ 70 then some (c.toNat - 65 + 10)
  else none
def hex2 (a b : UInt8) : Option Nat := match hexV a, hexV b with
  | some x, some y => some (x * 16 + y)
  | _, _ => none
def pcs : List (List UInt8) → Option (List UInt8)
  | [] => some []
  | (a :: b :: p) :: r => match hex2 a b, pcs r with
    | some n, some u => some (UInt8.ofNat n :: (p ++ u))
    | _, _ => none
  | _ :: _ => none
def unesc (l : List UInt8) : Option (List UInt8) := match cutL 37 l with
  | [] => none
  | u :: r => (pcs r).map (u ++ ·)
def unescs : List (List UInt8) → Option (List (List UInt8))
  | [] => some []
  | p :: r => match unesc p, unescs r with
    | some u, some v => some (u :: v)
    | _, _ => none
def ahead : List UInt8 → List UInt8
  | [] => []
  | c :: l => if c = 63 then [] else c :: ahead l
/-! They are one. -/
def under (part : List UInt8) : List (List UInt8) → Option (List (List UInt8))
  | [] => none
  | h :: t => match unesc h, unescs t with
    | some u, some v => some ((part ++ u) :: v)
    | _, _ => none
end Go.Proofs.YtpijbbobejeemaaGreatDoor.Htp

/- Http: strings.Split at a byte: a new row of texts. -/
set_option linter.unusedVariables false
set_option linter.unusedSimpArgs false
set_option maxRecDepth 100000
namespace Go.Proofs.YtpijbbobejeemaaGreatDoor.Htp
open Go Go.RowKit Go.Proofs.YtpijbbobejeemaaGreatDoor.Eng Go.Proofs.YtpijbbobejeemaaGreatDoor.Kit
noncomputable def rowC {π : Type} (get : List AV → Option π) (pre : π → Prop) (vals : π → List Value) (e : TypeId) : List AV → Option (AP AV) := fun args => match get args with
  | some p => some (.need (pre p) (.new (.cells (vmap (vals p)) (2 * e)) fun i => .ret (.slice i 0 (vals p).length 1 (.lo (vals p).length))))
  | none => some (.fail "arguments")
theorem rowC_ok {W : World} {F : HP} (hF : OldOK W F) {f : FuncId} {π : Type} {get : List AV → Option π} {pre : π → Prop} {vals : π → List Value} {e : TypeId} (args : π → List Value) (hg : ∀ A p, get A = some p → A = vmap (args p))
    (h : ∀ p, pre p → ∀ w, Stays W w → Calls Tryz.prog f (args p).toArray w fun ed w' => ed = .returned (.slice (some ⟨w.heap.size, 0, none⟩) (vals p).length (vals p).length) ∧ w' = w.alloc (.cells (vals p).toArray e)) : C1OK Tryz.prog F f (rowC get pre vals e) := by
  intro st W0 N h0 w A vargs v h' n n' lg lg' c q hp he hc r ha hf
  unfold rowC at hp
  split at hp
  · rename_i p hg1
    cases hp
    obtain ⟨c1, e1, rfl⟩ := run_need he
    obtain ⟨hpre, hc1⟩ := (Cnd.and_iff _ _).1 hc
    obtain ⟨hn, e2⟩ := run_new e1
    obtain ⟨rfl, rfl, rfl⟩ := inv_ret e2
    have hA := hg _ _ hg1
    subst hA
    have : vargs = (args p).toArray := by
      have := ha.of_vmap
      rw [← this]
    subst this
    obtain ⟨D0, D, h1, h2, h3⟩ := r.sat
    refine (h p hpre w (hF D0 w h1)).mono ?_
    rintro ed w' ⟨rfl, rfl⟩
    have hle := Names.put_le (l := ⟨w.heap.size, 0, (vals p).length⟩) (hf n (Nat.le_refl _) (by omega))
    refine ⟨_, N.put n ⟨w.heap.size, 0, (vals p).length⟩, rfl, ?_, ?_, Ext.put⟩
    · refine r.new hn hle ((Below.refl _ w).alloc (Nat.le_refl _) _) ⟨fun x => x = w.heap.size, ?_, fun b hb => by subst hb; exact Nat.le_refl _⟩
      refine ⟨⟨w.heap.size, 0, (vals p).length⟩, (vals p).toArray, (0, 0), Names.put_same, fun _ => Iff.rfl, (by rw [Nat.mul_div_cancel_left _ (by decide : 0 < 2)]; exact heap_alloc_new w _), by simp, by rw [vmap_length]; simp, .inl rfl, ?_, fun _ => ⟨rfl, rfl⟩⟩
      have : (((vals p).toArray).toList.drop 0).take (vmap (vals p)).length = vals p := by rw [vmap_length]; simp
      rw [this]
      exact VRs.vmap _
    · simp only [VR]
      exact ⟨_, 0, _, Names.put_same, rfl, .inl rfl, by simp, by simp only [Cp.fits]; omega, Nat.le_refl _⟩
  · cases hp
    cases he
abbrev fSplit : Nat := 26
theorem rS_map (l : List ByteArray) : rowV encS l = vmap (l.map Value.string) := by
  unfold rowV
  congr 1
  induction l with
  | nil => rfl
  | cons a l ih => rw [List.flatMap_cons, List.map_cons, ih]; rfl
end Go.Proofs.YtpijbbobejeemaaGreatDoor.Htp

/- Http: strconv.ParseUint at two digits in base 16: runs. -/
set_option linter.unusedVariables false
set_option linter.unusedSimpArgs false
set_option maxRecDepth 100000
namespace Go.Proofs.YtpijbbobejeemaaGreatDoor.Htp
open Go Go.RowKit Go.Proofs.YtpijbbobejeemaaGreatDoor.Eng Go.Proofs.YtpijbbobejeemaaGreatDoor.Kit
noncomputable section
end
end Go.Proofs.YtpijbbobejeemaaGreatDoor.Htp

/- Http: strconv.ParseUint at two digits in base 16. -/
set_option linter.unusedVariables false
set_option linter.unusedSimpArgs false
set_option maxRecDepth 100000
namespace Go.Proofs.YtpijbbobejeemaaGreatDoor.Htp
open Go Go.RowKit Go.Proofs.YtpijbbobejeemaaGreatDoor.Eng Go.Proofs.YtpijbbobejeemaaGreatDoor.Kit
structure LW2 (W : World) : Prop extends LW W where
  errS : ∃ te pe, W.cell? ⟨2, 0, none⟩ = some (.iface te pe)
theorem cls : ∀ c : Fin 256, (c.1 ≠ 95 ∧ 48 ≤ c.1 ∧ c.1 ≤ 57 ∧ hexV (UInt8.ofNat c.1) = some (c.1 - 48)) ∨
    (c.1 ≠ 95 ∧ 57 < c.1 ∧ 97 ≤ c.1 ||| 32 ∧ c.1 ||| 32 ≤ 122 ∧ (c.1 ||| 32) - 97 + 10 < 16 ∧ hexV (UInt8.ofNat c.1) = some ((c.1 ||| 32) - 97 + 10)) ∨
    (c.1 ≠ 95 ∧ 57 < c.1 ∧ 97 ≤ c.1 ||| 32 ∧ c.1 ||| 32 ≤ 122 ∧ 16 ≤ (c.1 ||| 32) - 97 + 10 ∧ hexV (UInt8.ofNat c.1) = none) ∨
    (c.1 ≠ 95 ∧ c.1 < 48 ∧ c.1 ||| 32 < 97 ∧ hexV (UInt8.ofNat c.1) = none) ∨
    (c.1 ≠ 95 ∧ 57 < c.1 ∧ c.1 ||| 32 < 97 ∧ hexV (UInt8.ofNat c.1) = none) ∨
    (c.1 ≠ 95 ∧ 57 < c.1 ∧ 97 ≤ c.1 ||| 32 ∧ 122 < c.1 ||| 32 ∧ hexV (UInt8.ofNat c.1) = none) ∨
    (c.1 = 95 ∧ 57 < c.1 ∧ 97 ≤ c.1 ||| 32 ∧ 122 < c.1 ||| 32 ∧ hexV (UInt8.ofNat c.1) = none) := by decide +kernel
end Go.Proofs.YtpijbbobejeemaaGreatDoor.Htp

/- Http: strconv.ParseUint at two digits in base 16: loop and functions. -/
set_option linter.unusedVariables false
set_option linter.unusedSimpArgs false
set_option maxRecDepth 100000
namespace Go.Proofs.YtpijbbobejeemaaGreatDoor.Htp
open Go Go.RowKit Go.Proofs.YtpijbbobejeemaaGreatDoor.Eng Go.Proofs.YtpijbbobejeemaaGreatDoor.Kit
theorem VAll.mono {α : Type} {Q Q' : α → List (Option AO) → Nat → Prop} {v : VT α} (h : VAll Q v) (hq : ∀ a os n, Q a os n → Q' a os n) : VAll Q' v := ⟨VT.all_mono hq h.out⟩
end Go.Proofs.YtpijbbobejeemaaGreatDoor.Htp

/- Http: strings.ContainsAny of two bytes at "+-_". -/
set_option linter.unusedVariables false
set_option linter.unusedSimpArgs false
set_option maxRecDepth 100000
namespace Go.Proofs.YtpijbbobejeemaaGreatDoor.Htp
open Go Go.RowKit
end Go.Proofs.YtpijbbobejeemaaGreatDoor.Htp

