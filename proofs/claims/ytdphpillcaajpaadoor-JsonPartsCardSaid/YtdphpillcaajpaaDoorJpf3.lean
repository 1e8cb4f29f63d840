/- Parts of the proof, merged. -/
import Derived.Test.YtdphpillcaajpaaDoorEngKit
import Derived.Lib.LaidTab
import Derived.Test.YtdphpillcaajpaaDoorEngXJpf
import Derived.Test.YtdphpillcaajpaaDoorEngCon
import Derived.Test.YtdphpillcaajpaaDoorEngRow
import Derived.Test.YtdphpillcaajpaaDoorShelf
import Derived.Lib.AppendIntMem
import Derived.Lib.SmallJoins
import Derived.Lib.AtoiTie
import Derived.Lib.ItoaLen
import Derived.Lib.AtoiAllCases
/- Functions that hand back a value and leave what was there as it was: contracts from the library's laws. -/
set_option linter.unusedVariables false
set_option linter.unusedSimpArgs false
namespace Go.Proofs.YtdphpillcaajpaaDoor.Kit
open Go Go.RowKit Go.Proofs.YtdphpillcaajpaaDoor.Eng
noncomputable section
def Stays (W w : World) : Prop := ∀ (b : Nat) (o : Obj), W.heap[b]? = some o → w.heap[b]? = some o
theorem Stays.cell {W w : World} (h : Stays W w) {a : Addr} {v : Value} (hv : W.cell? a = some v) : w.cell? a = some v := cell_of_block h a v hv
theorem Stays.tab {W w : World} (h : Stays W w) {P : Program} {n : String} {k : IntKind} {zs : List Int} (ht : Lib.TabIs P W n k zs) : Lib.TabIs P w n k zs := by
  unfold Lib.TabIs World.var? at *
  cases hg : P.globalNamed n with
  | none => rw [hg] at ht; cases ht
  | some g =>
    rw [hg] at ht
    simp only [Option.bind_some] at ht ⊢
    cases hb : W.heap[g]? with
    | none => rw [hb] at ht; cases ht
    | some o => rw [hb] at ht; rw [h _ _ hb]; exact ht
def vC {π : Type} (get : List AV → Option π) (pre : π → Prop) (val : π → AV) : List AV → Option (AP AV) :=
  fun args => match get args with
  | some p => some (.need (pre p) (.ret (val p)))
  | none => some (.fail "arguments")
theorem vC_ok {W : World} {F : HP} (hF : OldOK W F) {f : FuncId} {π : Type} {get : List AV → Option π} {pre : π → Prop} {val : π → AV} (args : π → List Value) (res : π → Value)
    (hg : ∀ A p, get A = some p → A = vmap (args p)) (hv : ∀ p N, VR N (val p) (res p))
    (h : ∀ p, pre p → ∀ w, Stays W w → Calls Tryd.prog f (args p).toArray w fun e w' => e = .returned (res p) ∧ Below w.heap.size w w') : C1OK Tryd.prog F f (vC get pre val) := by
  intro st W0 N h0 w A vargs v h' n n' lg lg' c q hp he hc r ha hf
  unfold vC at hp
  split at hp
  · rename_i p hg1
    cases hp
    obtain ⟨c1, e1, rfl⟩ := run_need he
    obtain ⟨rfl, rfl, rfl⟩ := inv_ret e1
    obtain ⟨hpre, hc1⟩ := (Cnd.and_iff _ _).1 hc
    have hA := hg _ _ hg1
    subst hA
    have : vargs = (args p).toArray := by
      have := ha.of_vmap
      rw [← this]
    subst this
    obtain ⟨D0, D, h1, h2, h3⟩ := r.sat
    refine (h p hpre w (hF D0 w h1)).mono ?_
    rintro e w' ⟨rfl, hb⟩
    exact ⟨_, N, rfl, r.below hb, hv p N, fun _ _ => rfl⟩
  · cases hp
    cases he
def g1s : List AV → Option ByteArray
  | [.v (.string s)] => some s
  | _ => none
def g2s : List AV → Option (ByteArray × ByteArray)
  | [.v (.string s), .v (.string t)] => some (s, t)
  | _ => none
def g1i : List AV → Option Int
  | [.v (.int .i64 n)] => some n
  | _ => none
theorem g1s_spec (A : List AV) (p : ByteArray) (h : g1s A = some p) : A = vmap [.string p] := by
  unfold g1s at h
  split at h
  · cases h; rfl
  · cases h
theorem g2s_spec (A : List AV) (p : ByteArray × ByteArray) (h : g2s A = some p) : A = vmap [.string p.1, .string p.2] := by
  unfold g2s at h
  split at h
  · cases h; rfl
  · cases h
theorem g1i_spec (A : List AV) (p : Int) (h : g1i A = some p) : A = vmap [.int .i64 p] := by
  unfold g1i at h
  split at h
  · cases h; rfl
  · cases h
theorem vr_v (N : Names) (x : Value) : VR N (.v x) x := VR_v.2 rfl
/-! Slices of our own memory that are read. -/
end
end Go.Proofs.YtdphpillcaajpaaDoor.Kit

/- Code in pieces: behind a piece the state is one of many, which one is known in the world alone. No program. -/
set_option linter.unusedVariables false
set_option linter.unusedSimpArgs false
namespace Go.Proofs.YtdphpillcaajpaaDoor.Eng
open Go Go.RowKit
def CTri (P : Program) (W : World) (cd : Code) (A : List AV) (H : LH) {ρ : Type} (ax : ρ → AX) (A' : ρ → List AV) (H' : ρ → LH) : Prop :=
  ∀ (W0 : World) (F : HP) (N : Names) (w : World) (a : Act) (Q : Exit → Act → World → Prop), OldOK W F → NB N H → Rep W0 N F (heapOf H) w → VRs N A a.tmps.toList →
    (∀ r a' w', St W0 F N (H' r) (A' r) a'.tmps.toList w' → a'.defers = a.defers → Q (exitOf (ax r)) a' w') → cd.wp P Q a w
section
variable {P : Program} {W : World} {ρ σ : Type}
theorem CTri.pre {cd : Code} {A A1 : List AV} {H H1 : LH} {ax : ρ → AX} {A' : ρ → List AV} {H' : ρ → LH} (h : CTri P W cd A1 H1 ax A' H') (hg : Goes A H A1 H1) : CTri P W cd A H ax A' H' := by
  intro W0 F N w a Q hF hN r ha hK
  obtain ⟨N1, g1, g2, g3, g4⟩ := hg W0 F N _ _ ⟨N, fun _ _ => rfl, hN, r, ha⟩
  exact h W0 F N1 w a Q hF g2 g3 g4 fun q a' w' ⟨N2, k1, k2, k3, k4⟩ hd => hK q a' w' ⟨N2, fun i hi => (k1 i hi).trans (g1 i hi), k2, k3, k4⟩ hd
theorem CTri.post {cd : Code} {A : List AV} {H : LH} {ax : ρ → AX} {A' : ρ → List AV} {H' : ρ → LH} {ρ2 : Type} {ax2 : ρ2 → AX} {A2 : ρ2 → List AV} {H2 : ρ2 → LH} (h : CTri P W cd A H ax A' H') (hg : ∀ r, ∃ r2, ax2 r2 = ax r ∧ Goes (A' r) (H' r) (A2 r2) (H2 r2)) : CTri P W cd A H ax2 A2 H2 := by
  intro W0 F N w a Q hF hN r ha hK
  refine h W0 F N w a Q hF hN r ha fun q a' w' hs hd => ?_
  obtain ⟨r2, e, hg⟩ := hg q
  rw [← e]
  exact hK r2 a' w' (hg _ _ _ _ _ hs) hd
theorem CTri.seq {c1 c2 : Code} {A : List AV} {H : LH} {A1 : σ → List AV} {H1 : σ → LH} {ax : ρ → AX} {A' : ρ → List AV} {H' : ρ → LH} (h1 : CTri P W c1 A H (fun _ : σ => .normal) A1 H1) (h2 : ∀ s, CTri P W c2 (A1 s) (H1 s) ax A' H') : CTri P W (.seq c1 c2) A H ax A' H' := by
  intro W0 F N w a Q hF hN r ha hK
  refine wp_seq (h1 W0 F N w a _ hF hN r ha fun s a' w' hs hd => ?_)
  obtain ⟨N1, g1, g2, g3, g4⟩ := hs
  exact h2 s W0 F N1 w' a' Q hF g2 g3 g4 fun q a2 w2 ⟨N2, k1, k2, k3, k4⟩ hd2 => hK q a2 w2 ⟨N2, fun i hi => (k1 i hi).trans (g1 i hi), k2, k3, k4⟩ (hd2.trans hd)
theorem CTri.block {c : Code} {id : Nat} {A : List AV} {H : LH} {A' : ρ → List AV} {H' : ρ → LH} (h : CTri P W c A H (fun _ : ρ => .exit id) A' H') : CTri P W (.block id c) A H (fun _ : ρ => .normal) A' H' := by
  intro W0 F N w a Q hF hN r ha hK
  refine wp_block (h W0 F N w a _ hF hN r ha fun q a' w' hs hd => ?_)
  show (if id = id then Q .normal a' w' else _)
  rw [if_pos rfl]
  exact hK q a' w' hs hd
theorem Tri.body {f : FuncId} {fn : Func} {cd : Code} {t m : Nat} {A A0 : List AV} {H H' : LH} {v : AV} {ax : AX} (hfn : P.funcs[f]? = some fn) (hcd : fn.body = some cd) (hres : fn.results = #[.tmp t]) (hm : fn.ntmps = m) (hA0 : A ++ List.replicate (m - A.length) AV.undef = A0) (hax : ax = .ret ∨ ax = .normal) (ht : t < m)
    (h : CTri P W cd A0 H (fun _ : Unit => ax) (fun _ => tms 0 m [(t, v)]) (fun _ => H')) : Tri P W f A H v H' := by
  intro W0 F N w vargs hF hN r ha
  have hlen : A.length = vargs.size := by rw [ha.len]; simp
  refine calls_of_wp hfn hcd ?_
  refine h W0 F N w _ _ hF hN r ?_ fun _ a' w' hs hd => ?_
  · subst hA0
    rw [Array.toList_append, Array.toList_replicate, hm, hlen]
    refine ha.append ?_
    generalize m - vargs.size = k
    induction k with
    | zero => exact VRs_nil
    | succ k ih => exact VRs_cons.2 ⟨undef_VR, ih⟩
  · obtain ⟨N1, g1, g2, g3, g4⟩ := hs
    have hv : ∀ (k j : Nat) (l : List Value), k ≤ t → t < k + j → VRs N1 (tms k j [(t, v)]) l → ∃ y, l[t - k]? = some y ∧ VR N1 v y := by
      intro k j
      induction j generalizing k with
      | zero => intro l h1 h2; omega
      | succ j ih =>
        intro l h1 h2 hl
        rw [tms] at hl
        simp only [VRs] at hl
        obtain ⟨y, l', q1, q2, rfl⟩ := hl
        by_cases e : k = t
        · subst e
          refine ⟨y, by simp, ?_⟩
          simpa using q1
        · obtain ⟨z, z1, z2⟩ := ih (k + 1) l' (by omega) (by omega) q2
          exact ⟨z, by rw [show t - k = (t - (k + 1)) + 1 from by omega, List.getElem?_cons_succ]; exact z1, z2⟩
    obtain ⟨y, hy, hvy⟩ := hv 0 m _ (Nat.zero_le _) (by omega) g4
    have hr : (results fn a'.tmps).run P w' = .ok y w' := by
      unfold results
      rw [hres]
      have : a'.tmps.getD t Go.undef = y := by
        rw [Nat.sub_zero, Array.getElem?_toList] at hy
        simp [Array.getD_eq_getD_getElem?, hy]
      rw [Array.getD_eq_getD_getElem?] at this
      simp [this]
    have hpost : a'.defers = [] ∧ ∃ y, (results fn a'.tmps).run P w' = .ok y w' ∧ ∃ z, Ending.returned y = .returned z ∧ St W0 F N H' [v] [z] w' := ⟨hd, y, hr, y, rfl, N1, g1, g2, g3, VRs_cons.2 ⟨hvy, VRs_nil⟩⟩
    rcases hax with rfl | rfl
    · exact hpost
    · exact hpost
theorem CTri.run {con : ConT} {claim : ClaimT} {lcon : LconT} {g : FuncId} {cd : Code} {A : List AV} {H : LH} {ax : ρ → AX} {A' : ρ → List AV} {H' : ρ → LH} (ks : List Nat) (fuel : Nat) (hm : P.follows .mixedOrders = true) (hH : namesLt 1100 H = true)
    (hcon : ∀ F, OldOK W F → ConOK P (envO P F con claim lcon W)) (hl : ∀ F, OldOK W F → LconOK P (envO P F con claim lcon W))
    (hrun : ∀ F, OldOK W F → (((runCode P (envO P F con claim lcon W) fuel g cd A).run2 (heapOf H) 1100 []).view ks).all fun u os _ => FitsE ks u.2 os fun W0 F N ys w => ∃ q, ax q = u.1 ∧ St W0 F N (H' q) (A' q) ys w) : CTri P W cd A H ax A' H' := by
  intro W0 F N w a Q hF hN r ha hK
  obtain ⟨⟨x, t⟩, h', n', lg', c, he, hc, hq⟩ := VT.all_pick (hrun F hF)
  rw [run2_pick] at he
  refine (runCode_sound hF.env hm (hcon F hF) (hl F hF) fuel).1 _ _ _ _ _ _ _ _ _ _ _ _ _ _ _ _ _ _ he hc r ha (fun i h1 h2 => hN.nothing hH h1) fun N2 a2 w2 r2 t2 d2 x2 => ?_
  have hlim := run_limit _ he (by decide)
  obtain ⟨q, e, hs⟩ := hq.state r2 x2 hlim (fun i hi => hN.nothing hH hi) t2
  simp only at e
  rw [← e]
  exact hK q a2 w2 hs d2
theorem CTri.loop {con : σ → ConT} {claim : σ → ClaimT} {lcon : σ → LconT} {g : FuncId} {b : Code} (A : σ → List AV) (H : σ → LH) (ax : ρ → AX) (A' : ρ → List AV) (H' : ρ → LH) (hax : ∀ q, ax q ≠ .normal) (μ : σ → Nat) (ks : List Nat) (fuel : Nat) (hm : P.follows .mixedOrders = true)
    (hH : ∀ s, namesLt 1100 (H s) = true)
    (hcon : ∀ s F, OldOK W F → ConOK P (envO P F (con s) (claim s) (lcon s) W)) (hl : ∀ s F, OldOK W F → LconOK P (envO P F (con s) (claim s) (lcon s) W))
    (hstep : ∀ s F, OldOK W F → (((runCode P (envO P F (con s) (claim s) (lcon s) W) fuel g b (A s)).run2 (heapOf (H s)) 1100 []).view ks).all fun r os _ =>
      FitsE ks r.2 os fun W0 F N ys w => (r.1 = .normal ∧ ∃ s', μ s' < μ s ∧ St W0 F N (H s') (A s') ys w) ∨ ∃ q, ax q = r.1 ∧ St W0 F N (H' q) (A' q) ys w) (s : σ) :
    CTri P W (.loop b) (A s) (H s) ax A' H' := by
  intro W0 F N w a Q hF hN r ha hK
  refine wp_loop_rounds (μ s + 1) ?_
  have key : ∀ (m : Nat) (s : σ), μ s < m → ∀ (N1 : Names) (w : World) (a1 : Act), (∀ i, i < 1000 → N1 i = N i) → NB N1 (H s) → Rep W0 N1 F (heapOf (H s)) w → VRs N1 (A s) a1.tmps.toList → a1.defers = a.defers →
      Code.rounds P b Q m a1 w := by
    intro m
    induction m with
    | zero => intro s hs; omega
    | succ m ih =>
      intro s hs N1 w a1 hN1 hNB r ha hd
      rw [rounds_succ]
      obtain ⟨⟨x, t⟩, h', n', lg', c, he, hc, hq⟩ := VT.all_pick (hstep s F hF)
      rw [run2_pick] at he
      refine (runCode_sound hF.env hm (hcon s F hF) (hl s F hF) fuel).1 _ _ _ _ _ _ _ _ _ _ _ _ _ _ _ _ _ _ he hc r ha (fun i h1 h2 => hNB.nothing (hH s) h1) fun N2 a2 w2 r2 t2 d2 x2 => ?_
      have hlim := run_limit _ he (by decide)
      have hN0 : ∀ i, 1100 ≤ i → N1 i = none := fun i hi => hNB.nothing (hH s) hi
      rcases hq.state r2 x2 hlim hN0 t2 with ⟨e, s', hμ, N3, q1, q2, q3, q4⟩ | ⟨q, e, N3, q1, q2, q3, q4⟩
      · simp only at e
        subst e
        show Code.rounds P b Q m a2 w2
        exact ih s' (by omega) N3 w2 a2 (fun i hi => (q1 i hi).trans (hN1 i hi)) q2 q3 q4 (d2.trans hd)
      · have hfin := hK q a2 w2 ⟨N3, fun i hi => (q1 i hi).trans (hN1 i hi), q2, q3, q4⟩ (d2.trans hd)
        have hx : x ≠ .normal := fun h => hax q (e.trans h)
        rw [e] at hfin
        cases x with
        | normal => exact absurd rfl hx
        | exit id => exact hfin
        | ret => exact hfin
  exact key _ s (by omega) N w a (fun _ _ => rfl) hN r ha rfl
end
end Go.Proofs.YtdphpillcaajpaaDoor.Eng

/- Code in pieces, over the program. -/
set_option linter.unusedVariables false
set_option linter.unusedSimpArgs false
namespace Go.Proofs.YtdphpillcaajpaaDoor.Kit
open Go Go.RowKit Go.Proofs.YtdphpillcaajpaaDoor.Eng
section
variable {W : World} {g : FuncId} {ρ σ : Type}
end
/-! Pieces of code. -/
def fst : Code → Code
  | .seq a _ => a
  | c => c
def snd : Code → Code
  | .seq _ b => b
  | c => c
end Go.Proofs.YtdphpillcaajpaaDoor.Kit

/- Rows of like elements: cells one by one. No program. -/
set_option linter.unusedVariables false
set_option linter.unusedSimpArgs false
namespace Go.Proofs.YtdphpillcaajpaaDoor.Eng
open Go Go.RowKit
section
variable {α : Type} {enc : α → List Value} {k : Nat}
end
end Go.Proofs.YtdphpillcaajpaaDoor.Eng

/- Rows of texts and of bytes; small laws that runs leave. -/
set_option linter.unusedVariables false
set_option linter.unusedSimpArgs false
set_option maxRecDepth 100000
namespace Go.Proofs.YtdphpillcaajpaaDoor.Kit
open Go Go.RowKit Go.Proofs.YtdphpillcaajpaaDoor.Eng
/-! Rows of texts. -/
def nil0 : ByteArray := ByteArray.empty
abbrev tStr : TypeId := 2 * 9
/-! Rows of bytes. -/
def byv (b : UInt8) : AV := .v (.int .u8 b.toNat)
def encB (b : UInt8) : List Value := [.int .u8 b.toNat]
abbrev tByt : TypeId := 2 * 5
def rB (l : List UInt8) : AO := .cells (rowV encB l) tByt
theorem encB_len (x : UInt8) : (encB x).length = 1 := rfl
theorem rB_len (M : List UInt8) : (rowV encB M).length = M.length := by rw [rowV_length (k := 1) encB_len, Nat.mul_one]
theorem rowB_map (l : List UInt8) : rowV encB l = vmap (l.map fun b => .int .u8 b.toNat) := by
  unfold rowV
  congr 1
  induction l with
  | nil => rfl
  | cons a l ih => rw [List.flatMap_cons, List.map_cons, ih]; rfl
/-! Small laws. -/
theorem ltFC {n : Nat} : decide (Int.ofNat n < (n : Int)) = false := decide_eq_false (by simp only [Int.ofNat_eq_natCast]; omega)
theorem ltTC {j n : Nat} (h : j < n) : decide (Int.ofNat j < (n : Int)) = true := decide_eq_true (by simp only [Int.ofNat_eq_natCast]; omega)
theorem VAll.ite {α : Type} {Q : α → List (Option AO) → Nat → Prop} {b : Bool} {x y : VT α} (h1 : b = true → VAll Q x) (h2 : b = false → VAll Q y) : VAll Q (.ite b x y) := ⟨⟨fun h => (h1 h).out, fun h => (h2 h).out⟩⟩
theorem wk_lb {b b' : Bool} (h : b = b') : Wk (.lit b) (.v (.bool b')) := by subst h; exact fun N y hy => VR_v.2 (VR_lit.1 hy)
theorem wk_bvE {b b' : Bool} (h : b = b') : Wk (.v (.bool b)) (.v (.bool b')) := by subst h; exact Wk.refl _
theorem wk_u8 {a b : Int} (h : a = b) : Wk (.v (.int .u8 a)) (.v (.int .u8 b)) := by subst h; exact Wk.refl _
end Go.Proofs.YtdphpillcaajpaaDoor.Kit

/- Json: what the library's functions hand back, as contracts. -/
set_option linter.unusedVariables false
set_option linter.unusedSimpArgs false
set_option maxRecDepth 100000
namespace Go.Proofs.YtdphpillcaajpaaDoor.Js
open Go Go.RowKit Go.Proofs.YtdphpillcaajpaaDoor.Eng Go.Proofs.YtdphpillcaajpaaDoor.Kit
noncomputable section
structure LW (W : World) : Prop where
  pows : Lib.TabIs Tryd.prog W "internal/strconv.uint64pow10" .u64 Lib.pow10Tab
def tB (l : List UInt8) : ByteArray := ⟨l.toArray⟩
theorem tB_data (l : List UInt8) : (tB l).data.toList = l := by simp [tB]
theorem tB_size (l : List UInt8) : (tB l).size = l.length := by simp [tB, ByteArray.size]
def asciiB (s : ByteArray) : Prop := ∀ (j : Nat) b, s.data.toList[j]? = some b → b.toNat < 128
def itoaB (n : Int) : ByteArray := tB (Lib.itoa n)
def preB (s t : ByteArray) : ByteArray := tB (Lib.trimPrefix s.data.toList t.data.toList)
def idxC (s : ByteArray) (c : Int) : Int := Lib.indexByte s.data.toList c.toNat.toUInt8
abbrev fItoa : Nat := 34
abbrev fTPre : Nat := 29
abbrev fIdxB : Nat := 45
abbrev fCAny : Nat := 31
abbrev fAtoi : Nat := 32
variable {W : World} {F : HP}
def cItoa : List AV → Option (AP AV) := vC g1i (fun n => -9223372036854775808 ≤ n ∧ n ≤ 9223372036854775807) (fun n => sv (itoaB n))
theorem cItoa_ok (hW : LW W) (hF : OldOK W F) : C1OK Tryd.prog F fItoa cItoa :=
  vC_ok hF (fun n => [.int .i64 n]) (fun n => .string (itoaB n)) g1i_spec (fun p N => vr_v N _) fun n hn w hw => (Tryd.strconv_Itoa n hn.1 hn.2 w (hw.tab hW.pows)).mono fun e w' ⟨h1, k, os, h2⟩ => ⟨h1, by rw [h2]; exact Lib.below_grow _ _ (Nat.le_refl _) k os⟩
theorem vr_t2 (N : Names) (a b : Value) : VR N (.tuple [.v a, .v b]) (.tuple #[a, b]) := by
  simp only [VR, VRs]
  exact ⟨[a, b], ⟨a, [b], rfl, ⟨b, [], rfl, rfl, rfl⟩, rfl⟩, rfl⟩
def cTPre : List AV → Option (AP AV) := vC g2s (fun _ => True) (fun p => sv (preB p.1 p.2))
theorem cTPre_ok (hF : OldOK W F) : C1OK Tryd.prog F fTPre cTPre :=
  vC_ok hF (fun p => [.string p.1, .string p.2]) (fun p => .string (preB p.1 p.2)) g2s_spec (fun p N => vr_v N _) fun p hp w hw =>
    (Tryd.strings_TrimPrefix p.1 p.2 w).mono fun e w' ⟨h1, h2⟩ => ⟨h1, by rw [h2]; exact Below.refl _ _⟩
def gSC : List AV → Option (ByteArray × Int)
  | [.v (.string s), .v (.int .u8 c)] => some (s, c)
  | _ => none
theorem gSC_spec (A : List AV) (p : ByteArray × Int) (h : gSC A = some p) : A = vmap [.string p.1, .int .u8 p.2] := by
  unfold gSC at h
  split at h
  · cases h; rfl
  · cases h
def cIdxB : List AV → Option (AP AV) := vC gSC (fun _ => True) (fun p => iv (idxC p.1 p.2))
theorem cIdxB_ok (hF : OldOK W F) : C1OK Tryd.prog F fIdxB cIdxB :=
  vC_ok hF (fun p => [.string p.1, .int .u8 p.2]) (fun p => .int .i64 (idxC p.1 p.2)) gSC_spec (fun p N => vr_v N _) fun p hp w hw =>
    (Tryd.strings_IndexByte p.1 p.2 w).mono fun e w' ⟨h1, h2⟩ => ⟨h1, by rw [h2]; exact Below.refl _ _⟩
def anyB (s t : ByteArray) : Bool := Lib.containsAny s.data.toList t.data.toList
def cCAny : List AV → Option (AP AV) := vC g2s (fun p => p.1.size < 4294967281 ∧ p.2.size < 4294967281 ∧ asciiB p.1 ∧ asciiB p.2) (fun p => bv (anyB p.1 p.2))
theorem cCAny_ok (hF : OldOK W F) : C1OK Tryd.prog F fCAny cCAny :=
  vC_ok hF (fun p => [.string p.1, .string p.2]) (fun p => .bool (anyB p.1 p.2)) g2s_spec (fun p N => vr_v N _) fun p hp w hw =>
    Tryd.strings_ContainsAny_laid p.1 p.2 w hp.1 hp.2.1 hp.2.2.1 hp.2.2.2
def cAtoi (s : ByteArray) (v : Int) : List AV → Option (AP AV) := vC g1s (fun p => p = s) (fun _ => .tuple [iv v, .v .nilIface])
theorem cAtoi_ok (hF : OldOK W F) (s : ByteArray) (hs : s.size ≤ 4611686018427387904) (v : Int) (h : Lib.atoiAll s.data.toList = .ok v) : C1OK Tryd.prog F fAtoi (cAtoi s v) :=
  vC_ok hF (fun p => [.string p]) (fun _ => .tuple #[.int .i64 v, .nilIface]) g1s_spec (fun p N => vr_t2 N _ _) fun p hp w hw => by
    subst hp
    refine (Tryd.strconv_Atoi_ok p (by omega) v h w).mono ?_
    rintro e w' ⟨h1, rfl | ⟨t, rfl⟩⟩
    · exact ⟨h1, Below.refl _ _⟩
    · exact ⟨h1, Go.Joins.below_bytesWorld _ _ _ _ (Nat.le_refl _)⟩
end
end Go.Proofs.YtdphpillcaajpaaDoor.Js

/- Json: numbers as texts: plain law. No program. -/
set_option linter.unusedVariables false
set_option linter.unusedSimpArgs false
namespace Go.Proofs.YtdphpillcaajpaaDoor.Js
open Go
def isD (b : UInt8) : Bool := decide (48 ≤ b.toNat) && decide (b.toNat ≤ 57)
def digE (l : List UInt8) (n : Nat) : Nat := n + ((l.drop n).takeWhile isD).length
def sgn (ks l : List UInt8) (n : Nat) : Bool := match l[n]? with
  | some c => ks.contains c
  | none => false
def sgE (ks l : List UInt8) (n : Nat) : Nat := if sgn ks l n then n + 1 else n
def num3 (l : List UInt8) (n : Nat) : Nat × Bool :=
  if sgn [101, 69] l n then (digE l (sgE [43, 45] l (n + 1)), decide (sgE [43, 45] l (n + 1) < digE l (sgE [43, 45] l (n + 1)))) else (n, true)
def num2 (l : List UInt8) (n : Nat) : Nat × Bool :=
  if sgn [46] l n then (if n + 1 < digE l (n + 1) then num3 l (digE l (n + 1)) else (digE l (n + 1), false)) else num3 l n
def num (l : List UInt8) : Nat × Bool :=
  if sgn [48] l (sgE [45] l 0) then num2 l (sgE [45] l 0 + 1) else if sgE [45] l 0 < digE l (sgE [45] l 0) then num2 l (digE l (sgE [45] l 0)) else (digE l (sgE [45] l 0), false)
/-! .. step by step, as the code goes. -/
def num3R (l : List UInt8) (n : Nat) : Nat × Bool :=
  if sgn [101, 69] l n then (if !decide (sgE [43, 45] l (sgE [101, 69] l n) < digE l (sgE [43, 45] l (sgE [101, 69] l n))) then (digE l (sgE [43, 45] l (sgE [101, 69] l n)), false) else (digE l (sgE [43, 45] l (sgE [101, 69] l n)), true)) else (sgE [101, 69] l n, true)
def num2R (l : List UInt8) (n : Nat) : Nat × Bool :=
  if sgn [46] l n then (if !decide (sgE [46] l n < digE l (sgE [46] l n)) then (digE l (sgE [46] l n), false) else num3R l (digE l (sgE [46] l n))) else num3R l (sgE [46] l n)
def numR (l : List UInt8) : Nat × Bool :=
  if !sgn [48] l (sgE [45] l 0) then (if !decide (sgE [48] l (sgE [45] l 0) < digE l (sgE [48] l (sgE [45] l 0))) then (digE l (sgE [48] l (sgE [45] l 0)), false) else num2R l (digE l (sgE [48] l (sgE [45] l 0)))) else num2R l (sgE [48] l (sgE [45] l 0))
theorem sgE_t {ks l : List UInt8} {n : Nat} (h : sgn ks l n = true) : sgE ks l n = n + 1 := by unfold sgE; rw [if_pos h]
theorem sgE_f {ks l : List UInt8} {n : Nat} (h : sgn ks l n = false) : sgE ks l n = n := by unfold sgE; rw [if_neg (by rw [h]; decide)]
theorem num3_raw (l : List UInt8) (n : Nat) : num3R l n = num3 l n := by
  unfold num3R num3
  cases h : sgn [101, 69] l n with
  | true =>
    rw [sgE_t h, if_pos rfl, if_pos rfl]
    by_cases h2 : sgE [43, 45] l (n + 1) < digE l (sgE [43, 45] l (n + 1))
    · rw [decide_eq_true h2]; rfl
    · rw [decide_eq_false h2]; rfl
  | false => rw [sgE_f h, if_neg (by decide), if_neg (by decide)]
theorem num2_raw (l : List UInt8) (n : Nat) : num2R l n = num2 l n := by
  unfold num2R num2
  cases h : sgn [46] l n with
  | true =>
    rw [sgE_t h, if_pos rfl, if_pos rfl, num3_raw]
    by_cases h2 : n + 1 < digE l (n + 1)
    · rw [decide_eq_true h2, if_pos h2]; rfl
    · rw [decide_eq_false h2, if_neg h2]; rfl
  | false => rw [sgE_f h, if_neg (by decide), if_neg (by decide), num3_raw]
theorem num_raw (l : List UInt8) : numR l = num l := by
  unfold numR num
  rw [num2_raw, num2_raw]
  cases h : sgn [48] l (sgE [45] l 0) with
  | true => rw [sgE_t h, if_neg (by decide), if_pos rfl]
  | false =>
    rw [sgE_f h, if_pos (show (!false) = true by decide), if_neg (show ¬ (false = true) by decide)]
    by_cases h2 : sgE [45] l 0 < digE l (sgE [45] l 0)
    · rw [decide_eq_true h2, if_pos h2]; rfl
    · rw [decide_eq_false h2, if_neg h2]; rfl
theorem digE_step {l : List UInt8} {n : Nat} {c : UInt8} (hc : l[n]? = some c) (hd : isD c = true) : digE l n = digE l (n + 1) := by
  have hn : n < l.length := (List.getElem?_eq_some_iff.1 hc).1
  have hcc : l[n] = c := (List.getElem?_eq_some_iff.1 hc).2
  unfold digE
  rw [List.drop_eq_getElem_cons hn, hcc, List.takeWhile_cons, if_pos hd, List.length_cons]
  omega
theorem digE_stop {l : List UInt8} {n : Nat} {c : UInt8} (hc : l[n]? = some c) (hd : isD c = false) : digE l n = n := by
  have hn : n < l.length := (List.getElem?_eq_some_iff.1 hc).1
  have hcc : l[n] = c := (List.getElem?_eq_some_iff.1 hc).2
  unfold digE
  rw [List.drop_eq_getElem_cons hn, hcc, List.takeWhile_cons, if_neg (by rw [hd]; decide)]
  rfl
theorem digE_end {l : List UInt8} {n : Nat} (hn : l.length ≤ n) : digE l n = n := by
  unfold digE
  rw [List.drop_eq_nil_iff.2 hn]
  rfl
theorem digE_le {l : List UInt8} {n : Nat} (hn : n ≤ l.length) : digE l n ≤ l.length := by
  unfold digE
  have h1 : ((l.drop n).takeWhile isD).length ≤ (l.drop n).length := by
    have := List.takeWhile_prefix (l := l.drop n) isD
    exact this.length_le
  rw [List.length_drop] at h1
  omega
theorem takeWhile_all {α : Type} {p : α → Bool} : ∀ {l : List α}, (l.takeWhile p).length = l.length ↔ l.all p = true
  | [] => by simp
  | a :: l => by
    by_cases h : p a = true
    · simp only [List.takeWhile_cons, h, if_true, List.length_cons, List.all_cons, Bool.true_and, Nat.add_right_cancel_iff]
      exact takeWhile_all
    · simp only [List.takeWhile_cons, h, List.length_cons, List.all_cons]
      simp
theorem digE_all {l : List UInt8} {n : Nat} (hn : n ≤ l.length) : digE l n = l.length ↔ (l.drop n).all isD = true := by
  rw [← takeWhile_all]
  unfold digE
  rw [List.length_drop]
  omega
def body (l : List UInt8) : List UInt8 := l.drop (sgE [45] l 0)
def below (l : List UInt8) : Bool := sgn [45] l 0
def zeroHead (b : List UInt8) : Bool := decide (1 < b.length) && (b.head? == some 48)
def intOK (b : List UInt8) : Bool := !b.isEmpty && b.all isD && !zeroHead b
def noDots (b : List UInt8) : Bool := b.all fun c => !([46, 101, 69] : List UInt8).contains c
def dval : Nat → List UInt8 → Nat
  | acc, [] => acc
  | acc, c :: r => dval (acc * 10 + (c.toNat - 48)) r
def ival (l : List UInt8) : Int := if below l then -(dval 0 (body l) : Int) else (dval 0 (body l) : Int)
theorem sgE_le (ks l : List UInt8) (n : Nat) : n ≤ sgE ks l n ∧ sgE ks l n ≤ n + 1 ∧ (sgE ks l n = n + 1 → n < l.length) := by
  unfold sgE
  by_cases h : sgn ks l n = true
  · rw [if_pos h]
    refine ⟨by omega, by omega, fun _ => ?_⟩
    unfold sgn at h
    split at h
    · rename_i c hc; exact (List.getElem?_eq_some_iff.1 hc).1
    · cases h
  · rw [if_neg h]
    exact ⟨by omega, by omega, fun h => by omega⟩
theorem sgE_len {ks l : List UInt8} {n : Nat} (hn : n ≤ l.length) : sgE ks l n ≤ l.length := by
  have := sgE_le ks l n
  by_cases h : sgE ks l n = n + 1
  · have := this.2.2 h; omega
  · omega
theorem num2_plain {l : List UInt8} {n m : Nat} (hmn : m ≤ n) (h : noDots (l.drop m) = true) : num2 l n = (n, true) := by
  have hno : ∀ ks : List UInt8, (∀ c, ks.contains c = true → ([46, 101, 69] : List UInt8).contains c = true) → sgn ks l n = false := by
    intro ks hk
    unfold sgn
    split
    · rename_i c hc
      have hin : c ∈ l.drop m := by
        rw [List.mem_iff_getElem?]
        exact ⟨n - m, by rw [List.getElem?_drop, show m + (n - m) = n by omega]; exact hc⟩
      have h1 := List.all_eq_true.1 h c hin
      cases hkc : ks.contains c with
      | false => rfl
      | true => rw [hk c hkc] at h1; cases h1
    · rfl
  unfold num2 num3
  rw [hno [46] (by intro c hc; simp at hc ⊢; exact .inl hc), hno [101, 69] (by intro c hc; simp at hc ⊢; exact .inr hc)]
  rfl
theorem bodyAt (l : List UInt8) : ∃ n, n = sgE [45] l 0 ∧ n ≤ l.length ∧ body l = l.drop n ∧ (body l).length = l.length - n := by
  refine ⟨_, rfl, sgE_len (Nat.zero_le _), rfl, ?_⟩
  unfold body
  rw [List.length_drop]
theorem head_sgn {l : List UInt8} {n : Nat} : sgn [48] l n = ((l.drop n).head? == some 48) := by
  unfold sgn
  rw [List.head?_drop]
  cases h : l[n]? with
  | none => rfl
  | some c =>
    simp only
    by_cases hc : c = 48
    · subst hc; rfl
    · have h1 : ([48] : List UInt8).contains c = false := by simpa using hc
      have h2 : ((some c : Option UInt8) == some 48) = false := by simpa using hc
      rw [h1, h2]
theorem num_int {l : List UInt8} (h : noDots (body l) = true) : (num l = (l.length, true)) ↔ intOK (body l) = true := by
  obtain ⟨n, hn, hl, hb, hlen⟩ := bodyAt l
  have hd := digE_all hl
  unfold num
  rw [← hn, head_sgn, ← hb]
  rw [← hb] at hd
  have h2 : ∀ k, n ≤ k → num2 l k = (k, true) := fun k hk => num2_plain hk (by rw [← hb]; exact h)
  unfold intOK zeroHead
  by_cases h0 : ((body l).head? == some 48) = true
  · rw [if_pos h0, h2 _ (by omega), h0, Bool.and_true]
    have h00 : (body l).head? = some 48 := by simpa using h0
    obtain ⟨r, hr⟩ : ∃ r, body l = 48 :: r := by
      cases hbb : body l with
      | nil => rw [hbb] at h00; cases h00
      | cons a r => rw [hbb] at h00; simp at h00; subst h00; exact ⟨r, rfl⟩
    rw [hr] at hlen ⊢
    rw [List.length_cons] at hlen
    constructor
    · intro he
      have he := (Prod.mk.inj he).1
      have : r = [] := List.eq_nil_of_length_eq_zero (by omega)
      subst this
      rfl
    · intro he
      rw [Bool.and_eq_true, Bool.not_eq_true', decide_eq_false_iff_not, List.length_cons] at he
      have h1 := he.2
      rw [show n + 1 = l.length by omega]
  · rw [if_neg h0]
    have h0' : ((body l).head? == some 48) = false := by simpa using h0
    rw [h0', Bool.and_false, Bool.not_false, Bool.and_true]
    constructor
    · intro he
      split at he
      · rename_i hlt
        rw [h2 _ (by omega)] at he
        have he := (Prod.mk.inj he).1
        rw [Bool.and_eq_true]
        refine ⟨?_, hd.1 he⟩
        cases hbb : body l with
        | nil => rw [hbb] at hlen; simp at hlen; omega
        | cons a r => rfl
      · cases (Prod.mk.inj he).2
    · intro he
      rw [Bool.and_eq_true] at he
      have e1 := hd.2 he.2
      have : 0 < (body l).length := by
        cases hbb : body l with
        | nil => rw [hbb] at he; cases he.1
        | cons a r => simp
      rw [e1, if_pos (by omega), h2 _ hl]
theorem isD_no {c : UInt8} (h : isD c = true) : ([46, 101, 69] : List UInt8).contains c = false := by
  unfold isD at h
  rw [Bool.and_eq_true, decide_eq_true_eq, decide_eq_true_eq] at h
  cases hc : ([46, 101, 69] : List UInt8).contains c with
  | false => rfl
  | true =>
    simp at hc
    rcases hc with rfl | rfl | rfl
    · have := h.1; simp at this
    · have := h.2; simp at this
    · have := h.2; simp at this
theorem int_noDots {b : List UInt8} (h : intOK b = true) : noDots b = true := by
  unfold intOK at h
  rw [Bool.and_eq_true, Bool.and_eq_true] at h
  exact List.all_eq_true.2 fun c hc => by rw [isD_no (List.all_eq_true.1 h.1.2 c hc)]; rfl
/-! Its value. -/
theorem decFrom_all : ∀ (b : List UInt8) (acc : Nat), b.all isD = true → Lib.decFrom acc b = some (dval acc b)
  | [], acc, _ => rfl
  | c :: r, acc, h => by
    rw [List.all_cons, Bool.and_eq_true] at h
    have h1 := h.1
    unfold isD at h1
    rw [Bool.and_eq_true, decide_eq_true_eq, decide_eq_true_eq] at h1
    simp only [Lib.decFrom, Lib.digitVal, if_pos h1]
    exact decFrom_all r _ h.2
theorem below_cases (l : List UInt8) : (below l = true ∧ ∃ b, l = 45 :: b ∧ body l = b) ∨ (below l = false ∧ body l = l) := by
  unfold below body sgE
  cases l with
  | nil => exact .inr ⟨rfl, rfl⟩
  | cons a r =>
    by_cases ha : a = 45
    · subst ha; exact .inl ⟨rfl, r, rfl, rfl⟩
    · have h1 : sgn [45] (a :: r) 0 = false := by unfold sgn; simpa using ha
      rw [h1]
      exact .inr ⟨rfl, rfl⟩
theorem atoi_int {l : List UInt8} (h : intOK (body l) = true) (h18 : (body l).length ≤ 18) : Lib.atoiAll l = .ok (ival l) := by
  unfold intOK at h
  rw [Bool.and_eq_true, Bool.and_eq_true] at h
  obtain ⟨⟨h1, h2⟩, h3⟩ := h
  have hdec : Lib.decNat (body l) = some (dval 0 (body l)) := by
    unfold Lib.decNat
    rw [if_neg (by simpa using h1)]
    exact decFrom_all _ _ h2
  rcases below_cases l with ⟨hb, b, rfl, e⟩ | ⟨hb, e⟩
  · rw [e] at h18 hdec
    rw [Lib.atoiAll_minus, Lib.signed_short h18, hdec]
    unfold ival
    rw [hb, e]
    rfl
  · rw [e] at h18 hdec
    rw [e] at h1 h2
    unfold ival
    rw [hb, e]
    cases l with
    | nil => cases h1
    | cons c r =>
      rw [List.all_cons, Bool.and_eq_true] at h2
      have h4 := h2.1
      unfold isD at h4
      rw [Bool.and_eq_true, decide_eq_true_eq, decide_eq_true_eq] at h4
      rw [Lib.atoiAll_plain c r (by omega) (by omega), Lib.signless_short h18, hdec]
      rfl
/-! A number's text. -/
theorem dval_append : ∀ (b c : List UInt8) (acc : Nat), dval acc (b ++ c) = dval (dval acc b) c
  | [], _, _ => rfl
  | a :: b, c, acc => dval_append b c _
theorem dig_nat (d : Nat) (h : d < 10) : (UInt8.ofNat (48 + d)).toNat = 48 + d := by
  rw [UInt8.toNat_ofNat']; omega
theorem dec_law (u : Nat) : (Lib.decDigits u) ≠ [] ∧ (Lib.decDigits u).all isD = true ∧ dval 0 (Lib.decDigits u) = u ∧ (0 < u → ∃ c r, Lib.decDigits u = c :: r ∧ c ≠ 48) := by
  induction u using Nat.strongRecOn with
  | _ u ih =>
    have hdig : ∀ d, d < 10 → isD (UInt8.ofNat (48 + d)) = true := fun d hd => by
      unfold isD; rw [dig_nat d hd, Bool.and_eq_true, decide_eq_true_eq, decide_eq_true_eq]; omega
    by_cases h : u < 10
    · rw [Lib.decDigits, dif_pos h]
      refine ⟨by simp, by rw [List.all_cons, hdig u h]; rfl, ?_, fun hu => ⟨_, [], rfl, fun he => ?_⟩⟩
      · show 0 * 10 + ((UInt8.ofNat (48 + u)).toNat - 48) = u
        rw [dig_nat u h]; omega
      · have := congrArg UInt8.toNat he
        rw [dig_nat u h] at this
        simp at this; omega
    · obtain ⟨q1, q2, q3, q4⟩ := ih (u / 10) (by omega)
      rw [Lib.decDigits, dif_neg h]
      refine ⟨by simp, ?_, ?_, fun hu => ?_⟩
      · rw [List.all_append, q2, List.all_cons, hdig _ (Nat.mod_lt _ (by decide))]; rfl
      · rw [dval_append, q3]
        show u / 10 * 10 + ((UInt8.ofNat (48 + u % 10)).toNat - 48) = u
        rw [dig_nat _ (Nat.mod_lt _ (by decide))]
        omega
      · obtain ⟨c, r, e, hc⟩ := q4 (by omega)
        exact ⟨c, r ++ [_], by rw [e]; rfl, hc⟩
theorem dec_int (u : Nat) : intOK (Lib.decDigits u) = true := by
  obtain ⟨q1, q2, q3, q4⟩ := dec_law u
  unfold intOK zeroHead
  rw [q2, Bool.and_true, Bool.and_eq_true]
  refine ⟨by simpa using q1, ?_⟩
  by_cases hu : 0 < u
  · obtain ⟨c, r, e, hc⟩ := q4 hu
    rw [e]
    have : ((c :: r).head? == some 48) = false := by simpa using hc
    rw [this, Bool.and_false]; rfl
  · obtain rfl : u = 0 := by omega
    rw [Lib.decDigits, dif_pos (by decide)]; rfl
theorem sgn_digits {b : List UInt8} (h : b.all isD = true) : sgn [45] b 0 = false := by
  unfold sgn
  cases b with
  | nil => rfl
  | cons c r =>
    rw [List.all_cons, Bool.and_eq_true] at h
    have h4 := h.1
    unfold isD at h4
    rw [Bool.and_eq_true, decide_eq_true_eq, decide_eq_true_eq] at h4
    have : c ≠ 45 := fun he => by subst he; have := h4.1; simp at this
    simpa using this
theorem itoa_law (n : Int) : intOK (body (Lib.itoa n)) = true ∧ ival (Lib.itoa n) = n ∧ (-1000000000000000000 < n → n < 1000000000000000000 → (body (Lib.itoa n)).length ≤ 18) := by
  have hlen : ∀ u : Nat, u < 1000000000000000000 → (Lib.decDigits u).length ≤ 18 := fun u hu => by
    rw [Lib.decDigits_length]
    by_cases hz : u = 0
    · subst hz; rw [Lib.nDigits_small (by decide)]; decide
    · by_cases hk : Lib.nDigits u ≤ 18
      · exact hk
      · have hu18 : u < 10 ^ 18 := hu
        have e := Lib.numDigits_eq u (by omega) (by omega)
        exfalso
        have hw : ∀ k v : Nat, v < 10 ^ (k + 1) → Lib.nDigits v ≤ k + 1 := by
          intro k
          induction k with
          | zero => intro v hv; rw [Lib.nDigits_small (by simpa using hv)]; exact Nat.le_refl _
          | succ k ih =>
            intro v hv
            by_cases h10 : v < 10
            · rw [Lib.nDigits_small h10]; omega
            · rw [Lib.nDigits_big h10]
              have := ih (v / 10) (by rw [Nat.pow_succ] at hv; omega)
              omega
        exact hk (hw 17 u hu18)
  unfold Lib.itoa
  by_cases hn : n < 0
  · rw [if_pos hn]
    have hs : sgn [45] (45 :: Lib.decDigits n.natAbs) 0 = true := rfl
    have hb : body (45 :: Lib.decDigits n.natAbs) = Lib.decDigits n.natAbs := rfl
    rw [hb]
    refine ⟨dec_int _, ?_, fun h1 h2 => hlen _ (by omega)⟩
    unfold ival below
    rw [hs, hb, (dec_law _).2.2.1]
    simp only [if_true]
    omega
  · rw [if_neg hn]
    have hs : sgn [45] (Lib.decDigits n.toNat) 0 = false := sgn_digits (dec_law _).2.1
    have hb : body (Lib.decDigits n.toNat) = Lib.decDigits n.toNat := by unfold body sgE; rw [hs]; rfl
    rw [hb]
    refine ⟨dec_int _, ?_, fun h1 h2 => hlen _ (by omega)⟩
    unfold ival below
    rw [hs, hb, (dec_law _).2.2.1]
    simp only [Bool.false_eq_true, if_false]
    omega
def asc (l : List UInt8) (n : Nat) : Prop := ∀ (i : Nat) c, i < n → l[i]? = some c → c.toNat < 128
theorem asc_sg {ks l : List UInt8} {n : Nat} (hk : ks.all (fun c => decide (c.toNat < 128)) = true) (h : asc l n) : asc l (sgE ks l n) := by
  cases hs : sgn ks l n with
  | false => rw [sgE_f hs]; exact h
  | true =>
    rw [sgE_t hs]
    intro i c hi hc
    by_cases hin : i < n
    · exact h i c hin hc
    · obtain rfl : i = n := by omega
      unfold sgn at hs
      rw [hc] at hs
      simp only at hs
      have hm : c ∈ ks := by simpa using hs
      exact of_decide_eq_true (List.all_eq_true.1 hk c hm)
theorem at_pre {a b t : List UInt8} (h : a ++ t = b) {j : Nat} (hj : j < a.length) : b[j]? = some a[j] := by
  subst h
  rw [List.getElem?_append_left hj, List.getElem?_eq_getElem hj]
theorem isD_lt {c : UInt8} (h : isD c = true) : c.toNat < 128 := by
  unfold isD at h
  rw [Bool.and_eq_true, decide_eq_true_eq, decide_eq_true_eq] at h
  omega
theorem asc_dig {l : List UInt8} {n : Nat} (h : asc l n) : asc l (digE l n) := by
  intro i c hi hc
  by_cases hin : i < n
  · exact h i c hin hc
  · unfold digE at hi
    have hj : i - n < ((l.drop n).takeWhile isD).length := by omega
    have hd : isD (((l.drop n).takeWhile isD)[i - n]) = true := by
      have := List.all_takeWhile (p := isD) (l := l.drop n)
      exact List.all_eq_true.1 this _ (List.getElem_mem hj)
    have hpre := List.takeWhile_prefix (l := l.drop n) isD
    obtain ⟨t, ht⟩ := hpre
    have he := at_pre ht hj
    rw [List.getElem?_drop, show n + (i - n) = i by omega, hc] at he
    rw [← Option.some.inj he] at hd
    exact isD_lt hd
theorem asc_num {l : List UInt8} (h : num l = (l.length, true)) : asc l l.length := by
  have a0 : asc l 0 := fun i c hi => by omega
  have h3 : ∀ n, asc l n → asc l (num3R l n).1 := fun n hn => by
    unfold num3R
    repeat' split
    · exact asc_dig (asc_sg rfl (asc_sg rfl hn))
    · exact asc_dig (asc_sg rfl (asc_sg rfl hn))
    · exact asc_sg rfl hn
  have h2 : ∀ n, asc l n → asc l (num2R l n).1 := fun n hn => by
    unfold num2R
    repeat' split
    · exact asc_dig (asc_sg rfl hn)
    · exact h3 _ (asc_dig (asc_sg rfl hn))
    · exact h3 _ (asc_sg rfl hn)
  have hl : (num l).1 = l.length := by rw [h]
  rw [← hl, ← num_raw]
  unfold numR
  repeat' split
  · exact asc_dig (asc_sg rfl (asc_sg rfl a0))
  · exact h2 _ (asc_dig (asc_sg rfl (asc_sg rfl a0)))
  · exact h2 _ (asc_sg rfl (asc_sg rfl a0))
def intT (k : Int) (l : List UInt8) : Bool := decide (k = 3) && intOK (body l) && decide ((body l).length ≤ 18)
def intV (k : Int) (l : List UInt8) : Int := if intT k l then ival l else 0
end Go.Proofs.YtdphpillcaajpaaDoor.Js

/- Json: values as cells tell them. No program. -/
set_option linter.unusedVariables false
set_option linter.unusedSimpArgs false
namespace Go.Proofs.YtdphpillcaajpaaDoor.Js
open Go Go.RowKit Go.Proofs.YtdphpillcaajpaaDoor.Eng Go.Proofs.YtdphpillcaajpaaDoor.Kit
inductive Jv where
  | mk (kind num : Int) (text : ByteArray) (list : List Jv) (names : List ByteArray)
  deriving Inhabited
def Jv.kind : Jv → Int
  | .mk k _ _ _ _ => k
def Jv.num : Jv → Int
  | .mk _ n _ _ _ => n
def Jv.text : Jv → ByteArray
  | .mk _ _ t _ _ => t
def Jv.list : Jv → List Jv
  | .mk _ _ _ l _ => l
def Jv.names : Jv → List ByteArray
  | .mk _ _ _ _ f => f
structure Rj where
  k : Int
  n : Int
  t : ByteArray
  la : Option Addr
  ll : Nat
  lc : Nat
  na : Option Addr
  nl : Nat
  nc : Nat
  deriving Inhabited
def Rj.cells (r : Rj) : List Value := [.int .i64 r.k, .int .i64 r.n, .string r.t, .slice r.la r.ll r.lc, .slice r.na r.nl r.nc]
def aggJ (r : Rj) : AV := .agg [iv r.k, iv r.n, sv r.t, slV r.la r.ll r.lc, slV r.na r.nl r.nc]
abbrev Mem := Addr → Option Value
def Cells (C : Mem) (a : Addr) (cs : List Value) : Prop := ∀ j u, cs[j]? = some u → C (a.add j) = some u
def big : Nat := 140737488351232
def LOf (V : Jv → Rj → Prop) (C : Mem) (oa : Option Addr) (l : List Jv) : Prop := l.length * 80 ≤ big ∧ ∀ i x, l[i]? = some x → ∃ a r, oa = some a ∧ Cells C (a.add (i * 5)) r.cells ∧ V x r
def NOf (C : Mem) (oa : Option Addr) (l : List ByteArray) : Prop := l.length * 16 ≤ big ∧ ∀ i x, l[i]? = some x → ∃ a, oa = some a ∧ C (a.add i) = some (.string x)
def JAt (C : Mem) : Nat → Jv → Rj → Prop
  | 0 => fun _ _ => False
  | d + 1 => fun v r => (r.k = v.kind ∧ r.n = v.num ∧ r.t = v.text ∧ r.ll = v.list.length ∧ r.nl = v.names.length) ∧ LOf (JAt C d) C r.la v.list ∧ NOf C r.na v.names
theorem Cells.mono {C C' : Mem} (h : ∀ a v, C a = some v → C' a = some v) {a : Addr} {cs : List Value} (hc : Cells C a cs) : Cells C' a cs := fun j u hu => h _ _ (hc j u hu)
theorem LOf.mono {V V' : Jv → Rj → Prop} (hV : ∀ x r, V x r → V' x r) {C C' : Mem} (h : ∀ a v, C a = some v → C' a = some v) {oa : Option Addr} {l : List Jv} (hl : LOf V C oa l) : LOf V' C' oa l :=
  ⟨hl.1, fun i x hx => by
    obtain ⟨a, r, h1, h2, h3⟩ := hl.2 i x hx
    exact ⟨a, r, h1, h2.mono h, hV _ _ h3⟩⟩
theorem NOf.mono {C C' : Mem} (h : ∀ a v, C a = some v → C' a = some v) {oa : Option Addr} {l : List ByteArray} (hl : NOf C oa l) : NOf C' oa l :=
  ⟨hl.1, fun i x hx => by
    obtain ⟨a, h1, h2⟩ := hl.2 i x hx
    exact ⟨a, h1, h _ _ h2⟩⟩
theorem JAt.mono {C C' : Mem} (h : ∀ a v, C a = some v → C' a = some v) : ∀ {d : Nat} {v : Jv} {r : Rj}, JAt C d v r → JAt C' d v r
  | 0, _, _, hv => hv.elim
  | d + 1, v, r, hv => ⟨hv.1, hv.2.1.mono (fun x r hx => JAt.mono h hx) h, hv.2.2.mono h⟩
theorem JAt.deep {C : Mem} : ∀ {d : Nat} {v : Jv} {r : Rj}, JAt C d v r → JAt C (d + 1) v r
  | 0, _, _, hv => hv.elim
  | d + 1, v, r, hv => ⟨hv.1, hv.2.1.mono (fun x r hx => JAt.deep hx) (fun _ _ h => h), hv.2.2⟩
def plainR (k n : Int) (t : ByteArray) : Rj := ⟨k, n, t, none, 0, 0, none, 0, 0⟩
theorem plain_at (C : Mem) (k n : Int) (t : ByteArray) : JAt C 1 (.mk k n t [] []) (plainR k n t) :=
  ⟨⟨rfl, rfl, rfl, rfl, rfl⟩, ⟨Nat.zero_le _, fun i x hx => by simp [Jv.list] at hx⟩, Nat.zero_le _, fun i x hx => by simp [Jv.names] at hx⟩
end Go.Proofs.YtdphpillcaajpaaDoor.Js

/- Json: how long a number is: runs. -/
set_option linter.unusedVariables false
set_option linter.unusedSimpArgs false
set_option maxRecDepth 100000
namespace Go.Proofs.YtdphpillcaajpaaDoor.Js
open Go Go.RowKit Go.Proofs.YtdphpillcaajpaaDoor.Eng Go.Proofs.YtdphpillcaajpaaDoor.Kit
noncomputable section
abbrev fNum : Nat := 30
abbrev fDig : Nat := 47
abbrev fSgn : Nat := 48
abbrev tIntO : TypeId := 2 * 3
def oN (n : Nat) (s : ByteArray) : LH := [(0, .cells [iv (Int.ofNat n)] tIntO), (1, .cells [sv s] tStr)]
def aD (m : Nat) : List (Nat × AV) := [(0, .ptr 0 0), (1, .ptr 1 0), (3, iv (Int.ofNat m))]
def hDg (x : UInt8) (i : Nat) (b1 b2 b : Bool) : ClaimT := hintL [(fDig, 2, 3, hv (.lit true)), (fDig, 2, 7, h0v (byv x)), (fDig, 2, 8, hv (.lit b1)), (fDig, 2, 13, h0v (byv x)), (fDig, 2, 14, hv (.lit b2)), (fDig, 2, 15, hv (.lit b)), (fDig, 3, 1, hv (iv (Int.ofNat (i + 1))))]
theorem oDgY_eq (s : ByteArray) (x : UInt8) (m i : Nat) (F : HP) : wLoop [] (hDg x i true true true) [] default fDig (loopN fDig 2) (tms 0 26 (aD m)) (oN i s) [0, 1] [0, 1, 3] F = VT.leaf (AX.normal, [AV.ptr 0 0, AV.ptr 1 0, AV.v (Value.int IntKind.i64 (Int.ofNat m))], 26) [some (AO.cells [AV.v (Value.int IntKind.i64 (Int.ofNat (i + 1)))] 6), some (AO.cells [AV.v (Value.string s)] 18)] 1100 (((Cnd.p (true = true)).a ((Cnd.p (AV.v (Value.int IntKind.i64 (Int.ofNat i)) = AV.v (Value.int IntKind.i64 (Int.ofNat i)))).a Cnd.t)).a (((Cnd.p (true = true)).a ((Cnd.p (AV.v (Value.string s) = AV.v (Value.string s))).a Cnd.t)).a (((Cnd.p (Wk (AV.v (Value.bool (decide (Int.ofNat i < ↑s.size)))) (AV.lit true))).a Cnd.t).a (((Cnd.p (true = true)).a ((Cnd.p (AV.v (Value.string s) = AV.v (Value.string s))).a Cnd.t)).a (((Cnd.p (true = true)).a ((Cnd.p (AV.v (Value.int IntKind.i64 (Int.ofNat i)) = AV.v (Value.int IntKind.i64 (Int.ofNat i)))).a Cnd.t)).a (((Cnd.p (i < s.size)).a ((Cnd.p (Wk (AV.v (Value.int IntKind.u8 ↑(s.data.toList.getD i 0).toNat)) (AV.v (Value.int IntKind.u8 ↑x.toNat)))).a Cnd.t)).a (((Cnd.p (Wk (AV.v (Value.bool (decide (↑x.toNat ≥ Int.ofNat 48)))) (AV.lit true))).a Cnd.t).a (((Cnd.p (true = true)).a ((Cnd.p (AV.v (Value.string s) = AV.v (Value.string s))).a Cnd.t)).a (((Cnd.p (true = true)).a ((Cnd.p (AV.v (Value.int IntKind.i64 (Int.ofNat i)) = AV.v (Value.int IntKind.i64 (Int.ofNat i)))).a Cnd.t)).a (((Cnd.p (i < s.size)).a ((Cnd.p (Wk (AV.v (Value.int IntKind.u8 ↑(s.data.toList.getD i 0).toNat)) (AV.v (Value.int IntKind.u8 ↑x.toNat)))).a Cnd.t)).a (((Cnd.p (Wk (AV.v (Value.bool (decide (↑x.toNat ≤ Int.ofNat 57)))) (AV.lit true))).a Cnd.t).a (((Cnd.p (Wk (AV.lit true) (AV.lit true))).a Cnd.t).a (((Cnd.p (true = true)).a ((Cnd.p (AV.v (Value.int IntKind.i64 (Int.ofNat i)) = AV.v (Value.int IntKind.i64 (Int.ofNat i)))).a Cnd.t)).a (((Cnd.p (Wk (AV.v (Value.int IntKind.i64 (IntKind.i64.wrap (Int.ofNat i + Int.ofNat 1)))) (AV.v (Value.int IntKind.i64 (Int.ofNat (i + 1)))))).a Cnd.t).a (((Cnd.p (true = true)).a Cnd.t).a Cnd.t))))))))))))))) := by kernel_rfl
theorem oDgL_eq (s : ByteArray) (x : UInt8) (m i : Nat) (F : HP) : wLoop [] (hDg x i false false false) [] default fDig (loopN fDig 2) (tms 0 26 (aD m)) (oN i s) [0, 1] [0, 1, 3] F = VT.leaf (AX.exit 0, [AV.ptr 0 0, AV.ptr 1 0, AV.v (Value.int IntKind.i64 (Int.ofNat m))], 26) [some (AO.cells [AV.v (Value.int IntKind.i64 (Int.ofNat i))] 6), some (AO.cells [AV.v (Value.string s)] 18)] 1100 (((Cnd.p (true = true)).a ((Cnd.p (AV.v (Value.int IntKind.i64 (Int.ofNat i)) = AV.v (Value.int IntKind.i64 (Int.ofNat i)))).a Cnd.t)).a (((Cnd.p (true = true)).a ((Cnd.p (AV.v (Value.string s) = AV.v (Value.string s))).a Cnd.t)).a (((Cnd.p (Wk (AV.v (Value.bool (decide (Int.ofNat i < ↑s.size)))) (AV.lit true))).a Cnd.t).a (((Cnd.p (true = true)).a ((Cnd.p (AV.v (Value.string s) = AV.v (Value.string s))).a Cnd.t)).a (((Cnd.p (true = true)).a ((Cnd.p (AV.v (Value.int IntKind.i64 (Int.ofNat i)) = AV.v (Value.int IntKind.i64 (Int.ofNat i)))).a Cnd.t)).a (((Cnd.p (i < s.size)).a ((Cnd.p (Wk (AV.v (Value.int IntKind.u8 ↑(s.data.toList.getD i 0).toNat)) (AV.v (Value.int IntKind.u8 ↑x.toNat)))).a Cnd.t)).a (((Cnd.p (Wk (AV.v (Value.bool (decide (↑x.toNat ≥ Int.ofNat 48)))) (AV.lit false))).a Cnd.t).a (((Cnd.p (Wk (AV.lit false) (AV.lit false))).a Cnd.t).a Cnd.t)))))))) := by kernel_rfl
theorem oDgH_eq (s : ByteArray) (x : UInt8) (m i : Nat) (F : HP) : wLoop [] (hDg x i true false false) [] default fDig (loopN fDig 2) (tms 0 26 (aD m)) (oN i s) [0, 1] [0, 1, 3] F = VT.leaf (AX.exit 0, [AV.ptr 0 0, AV.ptr 1 0, AV.v (Value.int IntKind.i64 (Int.ofNat m))], 26) [some (AO.cells [AV.v (Value.int IntKind.i64 (Int.ofNat i))] 6), some (AO.cells [AV.v (Value.string s)] 18)] 1100 (((Cnd.p (true = true)).a ((Cnd.p (AV.v (Value.int IntKind.i64 (Int.ofNat i)) = AV.v (Value.int IntKind.i64 (Int.ofNat i)))).a Cnd.t)).a (((Cnd.p (true = true)).a ((Cnd.p (AV.v (Value.string s) = AV.v (Value.string s))).a Cnd.t)).a (((Cnd.p (Wk (AV.v (Value.bool (decide (Int.ofNat i < ↑s.size)))) (AV.lit true))).a Cnd.t).a (((Cnd.p (true = true)).a ((Cnd.p (AV.v (Value.string s) = AV.v (Value.string s))).a Cnd.t)).a (((Cnd.p (true = true)).a ((Cnd.p (AV.v (Value.int IntKind.i64 (Int.ofNat i)) = AV.v (Value.int IntKind.i64 (Int.ofNat i)))).a Cnd.t)).a (((Cnd.p (i < s.size)).a ((Cnd.p (Wk (AV.v (Value.int IntKind.u8 ↑(s.data.toList.getD i 0).toNat)) (AV.v (Value.int IntKind.u8 ↑x.toNat)))).a Cnd.t)).a (((Cnd.p (Wk (AV.v (Value.bool (decide (↑x.toNat ≥ Int.ofNat 48)))) (AV.lit true))).a Cnd.t).a (((Cnd.p (true = true)).a ((Cnd.p (AV.v (Value.string s) = AV.v (Value.string s))).a Cnd.t)).a (((Cnd.p (true = true)).a ((Cnd.p (AV.v (Value.int IntKind.i64 (Int.ofNat i)) = AV.v (Value.int IntKind.i64 (Int.ofNat i)))).a Cnd.t)).a (((Cnd.p (i < s.size)).a ((Cnd.p (Wk (AV.v (Value.int IntKind.u8 ↑(s.data.toList.getD i 0).toNat)) (AV.v (Value.int IntKind.u8 ↑x.toNat)))).a Cnd.t)).a (((Cnd.p (Wk (AV.v (Value.bool (decide (↑x.toNat ≤ Int.ofNat 57)))) (AV.lit false))).a Cnd.t).a (((Cnd.p (Wk (AV.lit false) (AV.lit false))).a Cnd.t).a Cnd.t)))))))))))) := by kernel_rfl
theorem oDgE_eq (s : ByteArray) (m i : Nat) (F : HP) : wLoop [] (hintL [(fDig, 2, 3, hv (.lit false))]) [] default fDig (loopN fDig 2) (tms 0 26 (aD m)) (oN i s) [0, 1] [0, 1, 3] F = VT.leaf (AX.exit 0, [AV.ptr 0 0, AV.ptr 1 0, AV.v (Value.int IntKind.i64 (Int.ofNat m))], 26) [some (AO.cells [AV.v (Value.int IntKind.i64 (Int.ofNat i))] 6), some (AO.cells [AV.v (Value.string s)] 18)] 1100 (((Cnd.p (true = true)).a ((Cnd.p (AV.v (Value.int IntKind.i64 (Int.ofNat i)) = AV.v (Value.int IntKind.i64 (Int.ofNat i)))).a Cnd.t)).a (((Cnd.p (true = true)).a ((Cnd.p (AV.v (Value.string s) = AV.v (Value.string s))).a Cnd.t)).a (((Cnd.p (Wk (AV.v (Value.bool (decide (Int.ofNat i < ↑s.size)))) (AV.lit false))).a Cnd.t).a Cnd.t))) := by kernel_rfl
def lDg (s : ByteArray) (m e : Nat) : List AV → AP (AX × List AV) := mkL (fun _ => .ret ()) (fun _ => True) (fun _ k => k) (fun _ => tms 0 26 (aD m)) (fun _ => oN m s) (fun _ => .leaf (.exit 0) (tms 0 26 (aD m)) (oN e s))
theorem oDg_eq (s : ByteArray) (m e : Nat) (b : Bool) (F : HP) : wRun [] (hintL [(fDig, 4, 2, hv (bv b))]) [(fDig, 2, loopN fDig 2, lDg s m e)] default fDig [.ptr 0 0, .ptr 1 0] (oN m s) [0, 1] F = VT.leaf (AV.v (Value.bool b)) [some (AO.cells [AV.v (Value.int IntKind.i64 (Int.ofNat e))] 6), some (AO.cells [AV.v (Value.string s)] 18)] 1100 (((Cnd.p (true = true)).a ((Cnd.p (AV.v (Value.int IntKind.i64 (Int.ofNat m)) = AV.v (Value.int IntKind.i64 (Int.ofNat m)))).a Cnd.t)).a ((Cnd.p ((fDig, 2, loopN fDig 2, lDg s m e).snd.snd.fst = (fDig, 2, loopN fDig 2, lDg s m e).snd.snd.fst)).a ((Cnd.p True).a ((Cnd.p (VW [AV.ptr 0 0, AV.ptr 1 0, AV.v (Value.bool false), AV.v (Value.int IntKind.i64 (Int.ofNat m)), AV.v (Value.int IntKind.i64 (Int.ofNat m)), AV.undef, AV.undef, AV.undef, AV.undef, AV.undef, AV.undef, AV.undef, AV.undef, AV.undef, AV.undef, AV.undef, AV.undef, AV.undef, AV.undef, AV.undef, AV.undef, AV.undef, AV.undef, AV.undef, AV.undef, AV.undef] [AV.ptr 0 0, AV.ptr 1 0, AV.any, AV.v (Value.int IntKind.i64 (Int.ofNat m)), AV.any, AV.any, AV.any, AV.any, AV.any, AV.any, AV.any, AV.any, AV.any, AV.any, AV.any, AV.any, AV.any, AV.any, AV.any, AV.any, AV.any, AV.any, AV.any, AV.any, AV.any, AV.any])).a ((Cnd.p (OW (AO.cells [AV.v (Value.int IntKind.i64 (Int.ofNat m))] 6) (AO.cells [AV.v (Value.int IntKind.i64 (Int.ofNat m))] 6))).a ((Cnd.p (OW (AO.cells [AV.v (Value.string s)] 18) (AO.cells [AV.v (Value.string s)] 18))).a (((Cnd.p (true = true)).a ((Cnd.p (AV.v (Value.int IntKind.i64 (Int.ofNat e)) = AV.v (Value.int IntKind.i64 (Int.ofNat e)))).a Cnd.t)).a (((Cnd.p (Wk (AV.v (Value.bool (decide (Int.ofNat e > Int.ofNat m)))) (AV.v (Value.bool b)))).a Cnd.t).a Cnd.t)))))))) := by kernel_rfl
def hSg (x : UInt8) (n : Nat) (b : Bool) : ClaimT := hintL [(fSgn, 1, 3, hv (.lit true)), (fSgn, 1, 8, h0v (byv x)), (fSgn, 1, 10, hv (.lit b)), (fSgn, 2, 1, hv (iv (Int.ofNat (n + 1))))]
theorem oSgT_eq (s k : ByteArray) (x : UInt8) (n : Nat) (F : HP) : wRun [(fIdxB, cIdxB)] (hSg x n true) [] default fSgn [sv k, .ptr 0 0, .ptr 1 0] (oN n s) [0, 1] F = VT.leaf (AV.v (Value.bool true)) [some (AO.cells [AV.v (Value.int IntKind.i64 (Int.ofNat (n + 1)))] 6), some (AO.cells [AV.v (Value.string s)] 18)] 1100 (((Cnd.p (true = true)).a ((Cnd.p (AV.v (Value.int IntKind.i64 (Int.ofNat n)) = AV.v (Value.int IntKind.i64 (Int.ofNat n)))).a Cnd.t)).a (((Cnd.p (true = true)).a ((Cnd.p (AV.v (Value.string s) = AV.v (Value.string s))).a Cnd.t)).a (((Cnd.p (Wk (AV.v (Value.bool (decide (Int.ofNat n < ↑s.size)))) (AV.lit true))).a Cnd.t).a (((Cnd.p (true = true)).a ((Cnd.p (AV.v (Value.string s) = AV.v (Value.string s))).a Cnd.t)).a (((Cnd.p (true = true)).a ((Cnd.p (AV.v (Value.int IntKind.i64 (Int.ofNat n)) = AV.v (Value.int IntKind.i64 (Int.ofNat n)))).a Cnd.t)).a (((Cnd.p (n < s.size)).a ((Cnd.p (Wk (AV.v (Value.int IntKind.u8 ↑(s.data.toList.getD n 0).toNat)) (AV.v (Value.int IntKind.u8 ↑x.toNat)))).a Cnd.t)).a (((Cnd.p True).a Cnd.t).a (((Cnd.p (Wk (AV.v (Value.bool (decide (idxC k ↑x.toNat ≥ Int.ofNat 0)))) (AV.lit true))).a Cnd.t).a (((Cnd.p (true = true)).a ((Cnd.p (AV.v (Value.int IntKind.i64 (Int.ofNat n)) = AV.v (Value.int IntKind.i64 (Int.ofNat n)))).a Cnd.t)).a (((Cnd.p (Wk (AV.v (Value.int IntKind.i64 (IntKind.i64.wrap (Int.ofNat n + Int.ofNat 1)))) (AV.v (Value.int IntKind.i64 (Int.ofNat (n + 1)))))).a Cnd.t).a (((Cnd.p (true = true)).a Cnd.t).a Cnd.t))))))))))) := by kernel_rfl
theorem oSgF_eq (s k : ByteArray) (x : UInt8) (n : Nat) (F : HP) : wRun [(fIdxB, cIdxB)] (hSg x n false) [] default fSgn [sv k, .ptr 0 0, .ptr 1 0] (oN n s) [0, 1] F = VT.leaf (AV.v (Value.bool false)) [some (AO.cells [AV.v (Value.int IntKind.i64 (Int.ofNat n))] 6), some (AO.cells [AV.v (Value.string s)] 18)] 1100 (((Cnd.p (true = true)).a ((Cnd.p (AV.v (Value.int IntKind.i64 (Int.ofNat n)) = AV.v (Value.int IntKind.i64 (Int.ofNat n)))).a Cnd.t)).a (((Cnd.p (true = true)).a ((Cnd.p (AV.v (Value.string s) = AV.v (Value.string s))).a Cnd.t)).a (((Cnd.p (Wk (AV.v (Value.bool (decide (Int.ofNat n < ↑s.size)))) (AV.lit true))).a Cnd.t).a (((Cnd.p (true = true)).a ((Cnd.p (AV.v (Value.string s) = AV.v (Value.string s))).a Cnd.t)).a (((Cnd.p (true = true)).a ((Cnd.p (AV.v (Value.int IntKind.i64 (Int.ofNat n)) = AV.v (Value.int IntKind.i64 (Int.ofNat n)))).a Cnd.t)).a (((Cnd.p (n < s.size)).a ((Cnd.p (Wk (AV.v (Value.int IntKind.u8 ↑(s.data.toList.getD n 0).toNat)) (AV.v (Value.int IntKind.u8 ↑x.toNat)))).a Cnd.t)).a (((Cnd.p True).a Cnd.t).a (((Cnd.p (Wk (AV.v (Value.bool (decide (idxC k ↑x.toNat ≥ Int.ofNat 0)))) (AV.lit false))).a Cnd.t).a Cnd.t)))))))) := by kernel_rfl
theorem oSgE_eq (s k : ByteArray) (n : Nat) (F : HP) : wRun [(fIdxB, cIdxB)] (hintL [(fSgn, 1, 3, hv (.lit false))]) [] default fSgn [sv k, .ptr 0 0, .ptr 1 0] (oN n s) [0, 1] F = VT.leaf (AV.v (Value.bool false)) [some (AO.cells [AV.v (Value.int IntKind.i64 (Int.ofNat n))] 6), some (AO.cells [AV.v (Value.string s)] 18)] 1100 (((Cnd.p (true = true)).a ((Cnd.p (AV.v (Value.int IntKind.i64 (Int.ofNat n)) = AV.v (Value.int IntKind.i64 (Int.ofNat n)))).a Cnd.t)).a (((Cnd.p (true = true)).a ((Cnd.p (AV.v (Value.string s) = AV.v (Value.string s))).a Cnd.t)).a (((Cnd.p (Wk (AV.v (Value.bool (decide (Int.ofNat n < ↑s.size)))) (AV.lit false))).a Cnd.t).a Cnd.t))) := by kernel_rfl
/-! The two as contracts. -/
structure NS where
  a : Nat
  b : Nat
  m : Nat
  s : ByteArray
  k : ByteArray
def gNS2 (a b : Nat) (k : ByteArray) : AP NS := .read a fun o => match o with
  | .cells [.v (.int .i64 z)] _ => match z with
    | .ofNat m => .read b fun o2 => match o2 with
      | .cells [.v (.string s)] _ => .ret ⟨a, b, m, s, k⟩
      | _ => .fail "text"
    | _ => .fail "place"
  | _ => .fail "place"
def gDg : List AV → AP NS := fun args => match args with
  | [.ptr a _, .ptr b _] => gNS2 a b nil0
  | _ => .fail "digits"
def gSg : List AV → AP NS := fun args => match args with
  | [.v (.string k), .ptr a _, .ptr b _] => gNS2 a b k
  | _ => .fail "sign"
def nmNS (p : NS) : Nat → Nat := fun i => match Nat.beq i 0 with
  | true => p.a
  | false => p.b
def Few (n : Nat) : Prop := n ≤ 4611686018427387904
def bts (s : ByteArray) : List UInt8 := s.data.toList
def cDg : List AV → Option (AP AV) := mkC gDg (fun p => p.m ≤ p.s.size ∧ Few p.s.size) nmNS (fun _ => [.ptr 0 0, .ptr 1 0]) (fun p => oN p.m p.s) (fun p => .leaf .ret [bv (decide (p.m < digE (bts p.s) p.m))] (oN (digE (bts p.s) p.m) p.s))
def cSg : List AV → Option (AP AV) := mkC gSg (fun p => p.m ≤ p.s.size ∧ Few p.s.size) nmNS (fun p => [sv p.k, .ptr 0 0, .ptr 1 0]) (fun p => oN p.m p.s) (fun p => .leaf .ret [bv (sgn (bts p.k) (bts p.s) p.m)] (oN (sgE (bts p.k) (bts p.s) p.m) p.s))
theorem oNm_eq (W : World) (s : ByteArray) (F : HP) : wRun [(fDig, cDg), (fSgn, cSg)] noHints [] W fNum [sv s] [] [] F = VT.ite (!sgn [48] (bts s) (sgE [45] (bts s) 0)) (VT.ite (!decide (sgE [48] (bts s) (sgE [45] (bts s) 0) < digE (bts s) (sgE [48] (bts s) (sgE [45] (bts s) 0)))) (VT.leaf (AV.tuple [AV.v (Value.int IntKind.i64 (Int.ofNat (digE (bts s) (sgE [48] (bts s) (sgE [45] (bts s) 0))))), AV.v (Value.bool false)]) [] 1102 (((Cnd.p (0 ≤ s.size ∧ Few s.size)).a ((Cnd.p (VW [AV.v (Value.string (ByteArray.mk (Array.mk [45]))), AV.ptr 1101 0, AV.ptr 1100 0] [AV.v (Value.string (ByteArray.mk (Array.mk [45]))), AV.ptr 1101 0, AV.ptr 1100 0])).a ((Cnd.p (OW (AO.cells [AV.v (Value.int IntKind.i64 (Int.ofNat 0))] 6) (AO.cells [AV.v (Value.int IntKind.i64 (Int.ofNat 0))] 6))).a ((Cnd.p (OW (AO.cells [AV.v (Value.string s)] 18) (AO.cells [AV.v (Value.string s)] 18))).a Cnd.t)))).a (((Cnd.p (sgE [45] (bts s) 0 ≤ s.size ∧ Few s.size)).a ((Cnd.p (VW [AV.v (Value.string (ByteArray.mk (Array.mk [48]))), AV.ptr 1101 0, AV.ptr 1100 0] [AV.v (Value.string (ByteArray.mk (Array.mk [48]))), AV.ptr 1101 0, AV.ptr 1100 0])).a ((Cnd.p (OW (AO.cells [AV.v (Value.int IntKind.i64 (Int.ofNat (sgE [45] (bts s) 0)))] 6) (AO.cells [AV.v (Value.int IntKind.i64 (Int.ofNat (sgE [45] (bts s) 0)))] 6))).a ((Cnd.p (OW (AO.cells [AV.v (Value.string s)] 18) (AO.cells [AV.v (Value.string s)] 18))).a Cnd.t)))).a (((Cnd.p (sgE [48] (bts s) (sgE [45] (bts s) 0) ≤ s.size ∧ Few s.size)).a ((Cnd.p (VW [AV.ptr 1101 0, AV.ptr 1100 0] [AV.ptr 1101 0, AV.ptr 1100 0])).a ((Cnd.p (OW (AO.cells [AV.v (Value.int IntKind.i64 (Int.ofNat (sgE [48] (bts s) (sgE [45] (bts s) 0))))] 6) (AO.cells [AV.v (Value.int IntKind.i64 (Int.ofNat (sgE [48] (bts s) (sgE [45] (bts s) 0))))] 6))).a ((Cnd.p (OW (AO.cells [AV.v (Value.string s)] 18) (AO.cells [AV.v (Value.string s)] 18))).a Cnd.t)))).a (((Cnd.p (true = true)).a ((Cnd.p (AV.v (Value.int IntKind.i64 (Int.ofNat (digE (bts s) (sgE [48] (bts s) (sgE [45] (bts s) 0))))) = AV.v (Value.int IntKind.i64 (Int.ofNat (digE (bts s) (sgE [48] (bts s) (sgE [45] (bts s) 0))))))).a Cnd.t)).a (((Cnd.p (true = true)).a Cnd.t).a ((Cnd.p (true = true)).a ((Cnd.p (AV.v (Value.int IntKind.i64 (Int.ofNat (digE (bts s) (sgE [48] (bts s) (sgE [45] (bts s) 0))))) = AV.v (Value.int IntKind.i64 (Int.ofNat (digE (bts s) (sgE [48] (bts s) (sgE [45] (bts s) 0))))))).a Cnd.t)))))))) (VT.ite (sgn [46] (bts s) (digE (bts s) (sgE [48] (bts s) (sgE [45] (bts s) 0)))) (VT.ite (!decide (sgE [46] (bts s) (digE (bts s) (sgE [48] (bts s) (sgE [45] (bts s) 0))) < digE (bts s) (sgE [46] (bts s) (digE (bts s) (sgE [48] (bts s) (sgE [45] (bts s) 0)))))) (VT.leaf (AV.tuple [AV.v (Value.int IntKind.i64 (Int.ofNat (digE (bts s) (sgE [46] (bts s) (digE (bts s) (sgE [48] (bts s) (sgE [45] (bts s) 0))))))), AV.v (Value.bool false)]) [] 1102 (((Cnd.p (0 ≤ s.size ∧ Few s.size)).a ((Cnd.p (VW [AV.v (Value.string (ByteArray.mk (Array.mk [45]))), AV.ptr 1101 0, AV.ptr 1100 0] [AV.v (Value.string (ByteArray.mk (Array.mk [45]))), AV.ptr 1101 0, AV.ptr 1100 0])).a ((Cnd.p (OW (AO.cells [AV.v (Value.int IntKind.i64 (Int.ofNat 0))] 6) (AO.cells [AV.v (Value.int IntKind.i64 (Int.ofNat 0))] 6))).a ((Cnd.p (OW (AO.cells [AV.v (Value.string s)] 18) (AO.cells [AV.v (Value.string s)] 18))).a Cnd.t)))).a (((Cnd.p (sgE [45] (bts s) 0 ≤ s.size ∧ Few s.size)).a ((Cnd.p (VW [AV.v (Value.string (ByteArray.mk (Array.mk [48]))), AV.ptr 1101 0, AV.ptr 1100 0] [AV.v (Value.string (ByteArray.mk (Array.mk [48]))), AV.ptr 1101 0, AV.ptr 1100 0])).a ((Cnd.p (OW (AO.cells [AV.v (Value.int IntKind.i64 (Int.ofNat (sgE [45] (bts s) 0)))] 6) (AO.cells [AV.v (Value.int IntKind.i64 (Int.ofNat (sgE [45] (bts s) 0)))] 6))).a ((Cnd.p (OW (AO.cells [AV.v (Value.string s)] 18) (AO.cells [AV.v (Value.string s)] 18))).a Cnd.t)))).a (((Cnd.p (sgE [48] (bts s) (sgE [45] (bts s) 0) ≤ s.size ∧ Few s.size)).a ((Cnd.p (VW [AV.ptr 1101 0, AV.ptr 1100 0] [AV.ptr 1101 0, AV.ptr 1100 0])).a ((Cnd.p (OW (AO.cells [AV.v (Value.int IntKind.i64 (Int.ofNat (sgE [48] (bts s) (sgE [45] (bts s) 0))))] 6) (AO.cells [AV.v (Value.int IntKind.i64 (Int.ofNat (sgE [48] (bts s) (sgE [45] (bts s) 0))))] 6))).a ((Cnd.p (OW (AO.cells [AV.v (Value.string s)] 18) (AO.cells [AV.v (Value.string s)] 18))).a Cnd.t)))).a (((Cnd.p (digE (bts s) (sgE [48] (bts s) (sgE [45] (bts s) 0)) ≤ s.size ∧ Few s.size)).a ((Cnd.p (VW [AV.v (Value.string (ByteArray.mk (Array.mk [46]))), AV.ptr 1101 0, AV.ptr 1100 0] [AV.v (Value.string (ByteArray.mk (Array.mk [46]))), AV.ptr 1101 0, AV.ptr 1100 0])).a ((Cnd.p (OW (AO.cells [AV.v (Value.int IntKind.i64 (Int.ofNat (digE (bts s) (sgE [48] (bts s) (sgE [45] (bts s) 0)))))] 6) (AO.cells [AV.v (Value.int IntKind.i64 (Int.ofNat (digE (bts s) (sgE [48] (bts s) (sgE [45] (bts s) 0)))))] 6))).a ((Cnd.p (OW (AO.cells [AV.v (Value.string s)] 18) (AO.cells [AV.v (Value.string s)] 18))).a Cnd.t)))).a (((Cnd.p (sgE [46] (bts s) (digE (bts s) (sgE [48] (bts s) (sgE [45] (bts s) 0))) ≤ s.size ∧ Few s.size)).a ((Cnd.p (VW [AV.ptr 1101 0, AV.ptr 1100 0] [AV.ptr 1101 0, AV.ptr 1100 0])).a ((Cnd.p (OW (AO.cells [AV.v (Value.int IntKind.i64 (Int.ofNat (sgE [46] (bts s) (digE (bts s) (sgE [48] (bts s) (sgE [45] (bts s) 0))))))] 6) (AO.cells [AV.v (Value.int IntKind.i64 (Int.ofNat (sgE [46] (bts s) (digE (bts s) (sgE [48] (bts s) (sgE [45] (bts s) 0))))))] 6))).a ((Cnd.p (OW (AO.cells [AV.v (Value.string s)] 18) (AO.cells [AV.v (Value.string s)] 18))).a Cnd.t)))).a (((Cnd.p (true = true)).a ((Cnd.p (AV.v (Value.int IntKind.i64 (Int.ofNat (digE (bts s) (sgE [46] (bts s) (digE (bts s) (sgE [48] (bts s) (sgE [45] (bts s) 0))))))) = AV.v (Value.int IntKind.i64 (Int.ofNat (digE (bts s) (sgE [46] (bts s) (digE (bts s) (sgE [48] (bts s) (sgE [45] (bts s) 0))))))))).a Cnd.t)).a (((Cnd.p (true = true)).a Cnd.t).a ((Cnd.p (true = true)).a ((Cnd.p (AV.v (Value.int IntKind.i64 (Int.ofNat (digE (bts s) (sgE [46] (bts s) (digE (bts s) (sgE [48] (bts s) (sgE [45] (bts s) 0))))))) = AV.v (Value.int IntKind.i64 (Int.ofNat (digE (bts s) (sgE [46] (bts s) (digE (bts s) (sgE [48] (bts s) (sgE [45] (bts s) 0))))))))).a Cnd.t)))))))))) (VT.ite (sgn [101, 69] (bts s) (digE (bts s) (sgE [46] (bts s) (digE (bts s) (sgE [48] (bts s) (sgE [45] (bts s) 0)))))) (VT.ite (!decide (sgE [43, 45] (bts s) (sgE [101, 69] (bts s) (digE (bts s) (sgE [46] (bts s) (digE (bts s) (sgE [48] (bts s) (sgE [45] (bts s) 0)))))) < digE (bts s) (sgE [43, 45] (bts s) (sgE [101, 69] (bts s) (digE (bts s) (sgE [46] (bts s) (digE (bts s) (sgE [48] (bts s) (sgE [45] (bts s) 0))))))))) (VT.leaf (AV.tuple [AV.v (Value.int IntKind.i64 (Int.ofNat (digE (bts s) (sgE [43, 45] (bts s) (sgE [101, 69] (bts s) (digE (bts s) (sgE [46] (bts s) (digE (bts s) (sgE [48] (bts s) (sgE [45] (bts s) 0)))))))))), AV.v (Value.bool false)]) [] 1102 (((Cnd.p (0 ≤ s.size ∧ Few s.size)).a ((Cnd.p (VW [AV.v (Value.string (ByteArray.mk (Array.mk [45]))), AV.ptr 1101 0, AV.ptr 1100 0] [AV.v (Value.string (ByteArray.mk (Array.mk [45]))), AV.ptr 1101 0, AV.ptr 1100 0])).a ((Cnd.p (OW (AO.cells [AV.v (Value.int IntKind.i64 (Int.ofNat 0))] 6) (AO.cells [AV.v (Value.int IntKind.i64 (Int.ofNat 0))] 6))).a ((Cnd.p (OW (AO.cells [AV.v (Value.string s)] 18) (AO.cells [AV.v (Value.string s)] 18))).a Cnd.t)))).a (((Cnd.p (sgE [45] (bts s) 0 ≤ s.size ∧ Few s.size)).a ((Cnd.p (VW [AV.v (Value.string (ByteArray.mk (Array.mk [48]))), AV.ptr 1101 0, AV.ptr 1100 0] [AV.v (Value.string (ByteArray.mk (Array.mk [48]))), AV.ptr 1101 0, AV.ptr 1100 0])).a ((Cnd.p (OW (AO.cells [AV.v (Value.int IntKind.i64 (Int.ofNat (sgE [45] (bts s) 0)))] 6) (AO.cells [AV.v (Value.int IntKind.i64 (Int.ofNat (sgE [45] (bts s) 0)))] 6))).a ((Cnd.p (OW (AO.cells [AV.v (Value.string s)] 18) (AO.cells [AV.v (Value.string s)] 18))).a Cnd.t)))).a (((Cnd.p (sgE [48] (bts s) (sgE [45] (bts s) 0) ≤ s.size ∧ Few s.size)).a ((Cnd.p (VW [AV.ptr 1101 0, AV.ptr 1100 0] [AV.ptr 1101 0, AV.ptr 1100 0])).a ((Cnd.p (OW (AO.cells [AV.v (Value.int IntKind.i64 (Int.ofNat (sgE [48] (bts s) (sgE [45] (bts s) 0))))] 6) (AO.cells [AV.v (Value.int IntKind.i64 (Int.ofNat (sgE [48] (bts s) (sgE [45] (bts s) 0))))] 6))).a ((Cnd.p (OW (AO.cells [AV.v (Value.string s)] 18) (AO.cells [AV.v (Value.string s)] 18))).a Cnd.t)))).a (((Cnd.p (digE (bts s) (sgE [48] (bts s) (sgE [45] (bts s) 0)) ≤ s.size ∧ Few s.size)).a ((Cnd.p (VW [AV.v (Value.string (ByteArray.mk (Array.mk [46]))), AV.ptr 1101 0, AV.ptr 1100 0] [AV.v (Value.string (ByteArray.mk (Array.mk [46]))), AV.ptr 1101 0, AV.ptr 1100 0])).a ((Cnd.p (OW (AO.cells [AV.v (Value.int IntKind.i64 (Int.ofNat (digE (bts s) (sgE [48] (bts s) (sgE [45] (bts s) 0)))))] 6) (AO.cells [AV.v (Value.int IntKind.i64 (Int.ofNat (digE (bts s) (sgE [48] (bts s) (sgE [45] (bts s) 0)))))] 6))).a ((Cnd.p (OW (AO.cells [AV.v (Value.string s)] 18) (AO.cells [AV.v (Value.string s)] 18))).a Cnd.t)))).a (((Cnd.p (sgE [46] (bts s) (digE (bts s) (sgE [48] (bts s) (sgE [45] (bts s) 0))) ≤ s.size ∧ Few s.size)).a ((Cnd.p (VW [AV.ptr 1101 0, AV.ptr 1100 0] [AV.ptr 1101 0, AV.ptr 1100 0])).a ((Cnd.p (OW (AO.cells [AV.v (Value.int IntKind.i64 (Int.ofNat (sgE [46] (bts s) (digE (bts s) (sgE [48] (bts s) (sgE [45] (bts s) 0))))))] 6) (AO.cells [AV.v (Value.int IntKind.i64 (Int.ofNat (sgE [46] (bts s) (digE (bts s) (sgE [48] (bts s) (sgE [45] (bts s) 0))))))] 6))).a ((Cnd.p (OW (AO.cells [AV.v (Value.string s)] 18) (AO.cells [AV.v (Value.string s)] 18))).a Cnd.t)))).a (((Cnd.p (digE (bts s) (sgE [46] (bts s) (digE (bts s) (sgE [48] (bts s) (sgE [45] (bts s) 0)))) ≤ s.size ∧ Few s.size)).a ((Cnd.p (VW [AV.v (Value.string (ByteArray.mk (Array.mk [101, 69]))), AV.ptr 1101 0, AV.ptr 1100 0] [AV.v (Value.string (ByteArray.mk (Array.mk [101, 69]))), AV.ptr 1101 0, AV.ptr 1100 0])).a ((Cnd.p (OW (AO.cells [AV.v (Value.int IntKind.i64 (Int.ofNat (digE (bts s) (sgE [46] (bts s) (digE (bts s) (sgE [48] (bts s) (sgE [45] (bts s) 0)))))))] 6) (AO.cells [AV.v (Value.int IntKind.i64 (Int.ofNat (digE (bts s) (sgE [46] (bts s) (digE (bts s) (sgE [48] (bts s) (sgE [45] (bts s) 0)))))))] 6))).a ((Cnd.p (OW (AO.cells [AV.v (Value.string s)] 18) (AO.cells [AV.v (Value.string s)] 18))).a Cnd.t)))).a (((Cnd.p (sgE [101, 69] (bts s) (digE (bts s) (sgE [46] (bts s) (digE (bts s) (sgE [48] (bts s) (sgE [45] (bts s) 0))))) ≤ s.size ∧ Few s.size)).a ((Cnd.p (VW [AV.v (Value.string (ByteArray.mk (Array.mk [43, 45]))), AV.ptr 1101 0, AV.ptr 1100 0] [AV.v (Value.string (ByteArray.mk (Array.mk [43, 45]))), AV.ptr 1101 0, AV.ptr 1100 0])).a ((Cnd.p (OW (AO.cells [AV.v (Value.int IntKind.i64 (Int.ofNat (sgE [101, 69] (bts s) (digE (bts s) (sgE [46] (bts s) (digE (bts s) (sgE [48] (bts s) (sgE [45] (bts s) 0))))))))] 6) (AO.cells [AV.v (Value.int IntKind.i64 (Int.ofNat (sgE [101, 69] (bts s) (digE (bts s) (sgE [46] (bts s) (digE (bts s) (sgE [48] (bts s) (sgE [45] (bts s) 0))))))))] 6))).a ((Cnd.p (OW (AO.cells [AV.v (Value.string s)] 18) (AO.cells [AV.v (Value.string s)] 18))).a Cnd.t)))).a (((Cnd.p (sgE [43, 45] (bts s) (sgE [101, 69] (bts s) (digE (bts s) (sgE [46] (bts s) (digE (bts s) (sgE [48] (bts s) (sgE [45] (bts s) 0)))))) ≤ s.size ∧ Few s.size)).a ((Cnd.p (VW [AV.ptr 1101 0, AV.ptr 1100 0] [AV.ptr 1101 0, AV.ptr 1100 0])).a ((Cnd.p (OW (AO.cells [AV.v (Value.int IntKind.i64 (Int.ofNat (sgE [43, 45] (bts s) (sgE [101, 69] (bts s) (digE (bts s) (sgE [46] (bts s) (digE (bts s) (sgE [48] (bts s) (sgE [45] (bts s) 0)))))))))] 6) (AO.cells [AV.v (Value.int IntKind.i64 (Int.ofNat (sgE [43, 45] (bts s) (sgE [101, 69] (bts s) (digE (bts s) (sgE [46] (bts s) (digE (bts s) (sgE [48] (bts s) (sgE [45] (bts s) 0)))))))))] 6))).a ((Cnd.p (OW (AO.cells [AV.v (Value.string s)] 18) (AO.cells [AV.v (Value.string s)] 18))).a Cnd.t)))).a (((Cnd.p (true = true)).a ((Cnd.p (AV.v (Value.int IntKind.i64 (Int.ofNat (digE (bts s) (sgE [43, 45] (bts s) (sgE [101, 69] (bts s) (digE (bts s) (sgE [46] (bts s) (digE (bts s) (sgE [48] (bts s) (sgE [45] (bts s) 0)))))))))) = AV.v (Value.int IntKind.i64 (Int.ofNat (digE (bts s) (sgE [43, 45] (bts s) (sgE [101, 69] (bts s) (digE (bts s) (sgE [46] (bts s) (digE (bts s) (sgE [48] (bts s) (sgE [45] (bts s) 0)))))))))))).a Cnd.t)).a (((Cnd.p (true = true)).a Cnd.t).a ((Cnd.p (true = true)).a ((Cnd.p (AV.v (Value.int IntKind.i64 (Int.ofNat (digE (bts s) (sgE [43, 45] (bts s) (sgE [101, 69] (bts s) (digE (bts s) (sgE [46] (bts s) (digE (bts s) (sgE [48] (bts s) (sgE [45] (bts s) 0)))))))))) = AV.v (Value.int IntKind.i64 (Int.ofNat (digE (bts s) (sgE [43, 45] (bts s) (sgE [101, 69] (bts s) (digE (bts s) (sgE [46] (bts s) (digE (bts s) (sgE [48] (bts s) (sgE [45] (bts s) 0)))))))))))).a Cnd.t))))))))))))) (VT.leaf (AV.tuple [AV.v (Value.int IntKind.i64 (Int.ofNat (digE (bts s) (sgE [43, 45] (bts s) (sgE [101, 69] (bts s) (digE (bts s) (sgE [46] (bts s) (digE (bts s) (sgE [48] (bts s) (sgE [45] (bts s) 0)))))))))), AV.v (Value.bool true)]) [] 1102 (((Cnd.p (0 ≤ s.size ∧ Few s.size)).a ((Cnd.p (VW [AV.v (Value.string (ByteArray.mk (Array.mk [45]))), AV.ptr 1101 0, AV.ptr 1100 0] [AV.v (Value.string (ByteArray.mk (Array.mk [45]))), AV.ptr 1101 0, AV.ptr 1100 0])).a ((Cnd.p (OW (AO.cells [AV.v (Value.int IntKind.i64 (Int.ofNat 0))] 6) (AO.cells [AV.v (Value.int IntKind.i64 (Int.ofNat 0))] 6))).a ((Cnd.p (OW (AO.cells [AV.v (Value.string s)] 18) (AO.cells [AV.v (Value.string s)] 18))).a Cnd.t)))).a (((Cnd.p (sgE [45] (bts s) 0 ≤ s.size ∧ Few s.size)).a ((Cnd.p (VW [AV.v (Value.string (ByteArray.mk (Array.mk [48]))), AV.ptr 1101 0, AV.ptr 1100 0] [AV.v (Value.string (ByteArray.mk (Array.mk [48]))), AV.ptr 1101 0, AV.ptr 1100 0])).a ((Cnd.p (OW (AO.cells [AV.v (Value.int IntKind.i64 (Int.ofNat (sgE [45] (bts s) 0)))] 6) (AO.cells [AV.v (Value.int IntKind.i64 (Int.ofNat (sgE [45] (bts s) 0)))] 6))).a ((Cnd.p (OW (AO.cells [AV.v (Value.string s)] 18) (AO.cells [AV.v (Value.string s)] 18))).a Cnd.t)))).a (((Cnd.p (sgE [48] (bts s) (sgE [45] (bts s) 0) ≤ s.size ∧ Few s.size)).a ((Cnd.p (VW [AV.ptr 1101 0, AV.ptr 1100 0] [AV.ptr 1101 0, AV.ptr 1100 0])).a ((Cnd.p (OW (AO.cells [AV.v (Value.int IntKind.i64 (Int.ofNat (sgE [48] (bts s) (sgE [45] (bts s) 0))))] 6) (AO.cells [AV.v (Value.int IntKind.i64 (Int.ofNat (sgE [48] (bts s) (sgE [45] (bts s) 0))))] 6))).a ((Cnd.p (OW (AO.cells [AV.v (Value.string s)] 18) (AO.cells [AV.v (Value.string s)] 18))).a Cnd.t)))).a (((Cnd.p (digE (bts s) (sgE [48] (bts s) (sgE [45] (bts s) 0)) ≤ s.size ∧ Few s.size)).a ((Cnd.p (VW [AV.v (Value.string (ByteArray.mk (Array.mk [46]))), AV.ptr 1101 0, AV.ptr 1100 0] [AV.v (Value.string (ByteArray.mk (Array.mk [46]))), AV.ptr 1101 0, AV.ptr 1100 0])).a ((Cnd.p (OW (AO.cells [AV.v (Value.int IntKind.i64 (Int.ofNat (digE (bts s) (sgE [48] (bts s) (sgE [45] (bts s) 0)))))] 6) (AO.cells [AV.v (Value.int IntKind.i64 (Int.ofNat (digE (bts s) (sgE [48] (bts s) (sgE [45] (bts s) 0)))))] 6))).a ((Cnd.p (OW (AO.cells [AV.v (Value.string s)] 18) (AO.cells [AV.v (Value.string s)] 18))).a Cnd.t)))).a (((Cnd.p (sgE [46] (bts s) (digE (bts s) (sgE [48] (bts s) (sgE [45] (bts s) 0))) ≤ s.size ∧ Few s.size)).a ((Cnd.p (VW [AV.ptr 1101 0, AV.ptr 1100 0] [AV.ptr 1101 0, AV.ptr 1100 0])).a ((Cnd.p (OW (AO.cells [AV.v (Value.int IntKind.i64 (Int.ofNat (sgE [46] (bts s) (digE (bts s) (sgE [48] (bts s) (sgE [45] (bts s) 0))))))] 6) (AO.cells [AV.v (Value.int IntKind.i64 (Int.ofNat (sgE [46] (bts s) (digE (bts s) (sgE [48] (bts s) (sgE [45] (bts s) 0))))))] 6))).a ((Cnd.p (OW (AO.cells [AV.v (Value.string s)] 18) (AO.cells [AV.v (Value.string s)] 18))).a Cnd.t)))).a (((Cnd.p (digE (bts s) (sgE [46] (bts s) (digE (bts s) (sgE [48] (bts s) (sgE [45] (bts s) 0)))) ≤ s.size ∧ Few s.size)).a ((Cnd.p (VW [AV.v (Value.string (ByteArray.mk (Array.mk [101, 69]))), AV.ptr 1101 0, AV.ptr 1100 0] [AV.v (Value.string (ByteArray.mk (Array.mk [101, 69]))), AV.ptr 1101 0, AV.ptr 1100 0])).a ((Cnd.p (OW (AO.cells [AV.v (Value.int IntKind.i64 (Int.ofNat (digE (bts s) (sgE [46] (bts s) (digE (bts s) (sgE [48] (bts s) (sgE [45] (bts s) 0)))))))] 6) (AO.cells [AV.v (Value.int IntKind.i64 (Int.ofNat (digE (bts s) (sgE [46] (bts s) (digE (bts s) (sgE [48] (bts s) (sgE [45] (bts s) 0)))))))] 6))).a ((Cnd.p (OW (AO.cells [AV.v (Value.string s)] 18) (AO.cells [AV.v (Value.string s)] 18))).a Cnd.t)))).a (((Cnd.p (sgE [101, 69] (bts s) (digE (bts s) (sgE [46] (bts s) (digE (bts s) (sgE [48] (bts s) (sgE [45] (bts s) 0))))) ≤ s.size ∧ Few s.size)).a ((Cnd.p (VW [AV.v (Value.string (ByteArray.mk (Array.mk [43, 45]))), AV.ptr 1101 0, AV.ptr 1100 0] [AV.v (Value.string (ByteArray.mk (Array.mk [43, 45]))), AV.ptr 1101 0, AV.ptr 1100 0])).a ((Cnd.p (OW (AO.cells [AV.v (Value.int IntKind.i64 (Int.ofNat (sgE [101, 69] (bts s) (digE (bts s) (sgE [46] (bts s) (digE (bts s) (sgE [48] (bts s) (sgE [45] (bts s) 0))))))))] 6) (AO.cells [AV.v (Value.int IntKind.i64 (Int.ofNat (sgE [101, 69] (bts s) (digE (bts s) (sgE [46] (bts s) (digE (bts s) (sgE [48] (bts s) (sgE [45] (bts s) 0))))))))] 6))).a ((Cnd.p (OW (AO.cells [AV.v (Value.string s)] 18) (AO.cells [AV.v (Value.string s)] 18))).a Cnd.t)))).a (((Cnd.p (sgE [43, 45] (bts s) (sgE [101, 69] (bts s) (digE (bts s) (sgE [46] (bts s) (digE (bts s) (sgE [48] (bts s) (sgE [45] (bts s) 0)))))) ≤ s.size ∧ Few s.size)).a ((Cnd.p (VW [AV.ptr 1101 0, AV.ptr 1100 0] [AV.ptr 1101 0, AV.ptr 1100 0])).a ((Cnd.p (OW (AO.cells [AV.v (Value.int IntKind.i64 (Int.ofNat (sgE [43, 45] (bts s) (sgE [101, 69] (bts s) (digE (bts s) (sgE [46] (bts s) (digE (bts s) (sgE [48] (bts s) (sgE [45] (bts s) 0)))))))))] 6) (AO.cells [AV.v (Value.int IntKind.i64 (Int.ofNat (sgE [43, 45] (bts s) (sgE [101, 69] (bts s) (digE (bts s) (sgE [46] (bts s) (digE (bts s) (sgE [48] (bts s) (sgE [45] (bts s) 0)))))))))] 6))).a ((Cnd.p (OW (AO.cells [AV.v (Value.string s)] 18) (AO.cells [AV.v (Value.string s)] 18))).a Cnd.t)))).a (((Cnd.p (true = true)).a ((Cnd.p (AV.v (Value.int IntKind.i64 (Int.ofNat (digE (bts s) (sgE [43, 45] (bts s) (sgE [101, 69] (bts s) (digE (bts s) (sgE [46] (bts s) (digE (bts s) (sgE [48] (bts s) (sgE [45] (bts s) 0)))))))))) = AV.v (Value.int IntKind.i64 (Int.ofNat (digE (bts s) (sgE [43, 45] (bts s) (sgE [101, 69] (bts s) (digE (bts s) (sgE [46] (bts s) (digE (bts s) (sgE [48] (bts s) (sgE [45] (bts s) 0)))))))))))).a Cnd.t)).a (((Cnd.p (true = true)).a Cnd.t).a ((Cnd.p (true = true)).a ((Cnd.p (AV.v (Value.int IntKind.i64 (Int.ofNat (digE (bts s) (sgE [43, 45] (bts s) (sgE [101, 69] (bts s) (digE (bts s) (sgE [46] (bts s) (digE (bts s) (sgE [48] (bts s) (sgE [45] (bts s) 0)))))))))) = AV.v (Value.int IntKind.i64 (Int.ofNat (digE (bts s) (sgE [43, 45] (bts s) (sgE [101, 69] (bts s) (digE (bts s) (sgE [46] (bts s) (digE (bts s) (sgE [48] (bts s) (sgE [45] (bts s) 0)))))))))))).a Cnd.t)))))))))))))) (VT.leaf (AV.tuple [AV.v (Value.int IntKind.i64 (Int.ofNat (sgE [101, 69] (bts s) (digE (bts s) (sgE [46] (bts s) (digE (bts s) (sgE [48] (bts s) (sgE [45] (bts s) 0)))))))), AV.v (Value.bool true)]) [] 1102 (((Cnd.p (0 ≤ s.size ∧ Few s.size)).a ((Cnd.p (VW [AV.v (Value.string (ByteArray.mk (Array.mk [45]))), AV.ptr 1101 0, AV.ptr 1100 0] [AV.v (Value.string (ByteArray.mk (Array.mk [45]))), AV.ptr 1101 0, AV.ptr 1100 0])).a ((Cnd.p (OW (AO.cells [AV.v (Value.int IntKind.i64 (Int.ofNat 0))] 6) (AO.cells [AV.v (Value.int IntKind.i64 (Int.ofNat 0))] 6))).a ((Cnd.p (OW (AO.cells [AV.v (Value.string s)] 18) (AO.cells [AV.v (Value.string s)] 18))).a Cnd.t)))).a (((Cnd.p (sgE [45] (bts s) 0 ≤ s.size ∧ Few s.size)).a ((Cnd.p (VW [AV.v (Value.string (ByteArray.mk (Array.mk [48]))), AV.ptr 1101 0, AV.ptr 1100 0] [AV.v (Value.string (ByteArray.mk (Array.mk [48]))), AV.ptr 1101 0, AV.ptr 1100 0])).a ((Cnd.p (OW (AO.cells [AV.v (Value.int IntKind.i64 (Int.ofNat (sgE [45] (bts s) 0)))] 6) (AO.cells [AV.v (Value.int IntKind.i64 (Int.ofNat (sgE [45] (bts s) 0)))] 6))).a ((Cnd.p (OW (AO.cells [AV.v (Value.string s)] 18) (AO.cells [AV.v (Value.string s)] 18))).a Cnd.t)))).a (((Cnd.p (sgE [48] (bts s) (sgE [45] (bts s) 0) ≤ s.size ∧ Few s.size)).a ((Cnd.p (VW [AV.ptr 1101 0, AV.ptr 1100 0] [AV.ptr 1101 0, AV.ptr 1100 0])).a ((Cnd.p (OW (AO.cells [AV.v (Value.int IntKind.i64 (Int.ofNat (sgE [48] (bts s) (sgE [45] (bts s) 0))))] 6) (AO.cells [AV.v (Value.int IntKind.i64 (Int.ofNat (sgE [48] (bts s) (sgE [45] (bts s) 0))))] 6))).a ((Cnd.p (OW (AO.cells [AV.v (Value.string s)] 18) (AO.cells [AV.v (Value.string s)] 18))).a Cnd.t)))).a (((Cnd.p (digE (bts s) (sgE [48] (bts s) (sgE [45] (bts s) 0)) ≤ s.size ∧ Few s.size)).a ((Cnd.p (VW [AV.v (Value.string (ByteArray.mk (Array.mk [46]))), AV.ptr 1101 0, AV.ptr 1100 0] [AV.v (Value.string (ByteArray.mk (Array.mk [46]))), AV.ptr 1101 0, AV.ptr 1100 0])).a ((Cnd.p (OW (AO.cells [AV.v (Value.int IntKind.i64 (Int.ofNat (digE (bts s) (sgE [48] (bts s) (sgE [45] (bts s) 0)))))] 6) (AO.cells [AV.v (Value.int IntKind.i64 (Int.ofNat (digE (bts s) (sgE [48] (bts s) (sgE [45] (bts s) 0)))))] 6))).a ((Cnd.p (OW (AO.cells [AV.v (Value.string s)] 18) (AO.cells [AV.v (Value.string s)] 18))).a Cnd.t)))).a (((Cnd.p (sgE [46] (bts s) (digE (bts s) (sgE [48] (bts s) (sgE [45] (bts s) 0))) ≤ s.size ∧ Few s.size)).a ((Cnd.p (VW [AV.ptr 1101 0, AV.ptr 1100 0] [AV.ptr 1101 0, AV.ptr 1100 0])).a ((Cnd.p (OW (AO.cells [AV.v (Value.int IntKind.i64 (Int.ofNat (sgE [46] (bts s) (digE (bts s) (sgE [48] (bts s) (sgE [45] (bts s) 0))))))] 6) (AO.cells [AV.v (Value.int IntKind.i64 (Int.ofNat (sgE [46] (bts s) (digE (bts s) (sgE [48] (bts s) (sgE [45] (bts s) 0))))))] 6))).a ((Cnd.p (OW (AO.cells [AV.v (Value.string s)] 18) (AO.cells [AV.v (Value.string s)] 18))).a Cnd.t)))).a (((Cnd.p (digE (bts s) (sgE [46] (bts s) (digE (bts s) (sgE [48] (bts s) (sgE [45] (bts s) 0)))) ≤ s.size ∧ Few s.size)).a ((Cnd.p (VW [AV.v (Value.string (ByteArray.mk (Array.mk [101, 69]))), AV.ptr 1101 0, AV.ptr 1100 0] [AV.v (Value.string (ByteArray.mk (Array.mk [101, 69]))), AV.ptr 1101 0, AV.ptr 1100 0])).a ((Cnd.p (OW (AO.cells [AV.v (Value.int IntKind.i64 (Int.ofNat (digE (bts s) (sgE [46] (bts s) (digE (bts s) (sgE [48] (bts s) (sgE [45] (bts s) 0)))))))] 6) (AO.cells [AV.v (Value.int IntKind.i64 (Int.ofNat (digE (bts s) (sgE [46] (bts s) (digE (bts s) (sgE [48] (bts s) (sgE [45] (bts s) 0)))))))] 6))).a ((Cnd.p (OW (AO.cells [AV.v (Value.string s)] 18) (AO.cells [AV.v (Value.string s)] 18))).a Cnd.t)))).a (((Cnd.p (true = true)).a ((Cnd.p (AV.v (Value.int IntKind.i64 (Int.ofNat (sgE [101, 69] (bts s) (digE (bts s) (sgE [46] (bts s) (digE (bts s) (sgE [48] (bts s) (sgE [45] (bts s) 0)))))))) = AV.v (Value.int IntKind.i64 (Int.ofNat (sgE [101, 69] (bts s) (digE (bts s) (sgE [46] (bts s) (digE (bts s) (sgE [48] (bts s) (sgE [45] (bts s) 0)))))))))).a Cnd.t)).a (((Cnd.p (true = true)).a Cnd.t).a ((Cnd.p (true = true)).a ((Cnd.p (AV.v (Value.int IntKind.i64 (Int.ofNat (sgE [101, 69] (bts s) (digE (bts s) (sgE [46] (bts s) (digE (bts s) (sgE [48] (bts s) (sgE [45] (bts s) 0)))))))) = AV.v (Value.int IntKind.i64 (Int.ofNat (sgE [101, 69] (bts s) (digE (bts s) (sgE [46] (bts s) (digE (bts s) (sgE [48] (bts s) (sgE [45] (bts s) 0)))))))))).a Cnd.t))))))))))))) (VT.ite (sgn [101, 69] (bts s) (sgE [46] (bts s) (digE (bts s) (sgE [48] (bts s) (sgE [45] (bts s) 0))))) (VT.ite (!decide (sgE [43, 45] (bts s) (sgE [101, 69] (bts s) (sgE [46] (bts s) (digE (bts s) (sgE [48] (bts s) (sgE [45] (bts s) 0))))) < digE (bts s) (sgE [43, 45] (bts s) (sgE [101, 69] (bts s) (sgE [46] (bts s) (digE (bts s) (sgE [48] (bts s) (sgE [45] (bts s) 0)))))))) (VT.leaf (AV.tuple [AV.v (Value.int IntKind.i64 (Int.ofNat (digE (bts s) (sgE [43, 45] (bts s) (sgE [101, 69] (bts s) (sgE [46] (bts s) (digE (bts s) (sgE [48] (bts s) (sgE [45] (bts s) 0))))))))), AV.v (Value.bool false)]) [] 1102 (((Cnd.p (0 ≤ s.size ∧ Few s.size)).a ((Cnd.p (VW [AV.v (Value.string (ByteArray.mk (Array.mk [45]))), AV.ptr 1101 0, AV.ptr 1100 0] [AV.v (Value.string (ByteArray.mk (Array.mk [45]))), AV.ptr 1101 0, AV.ptr 1100 0])).a ((Cnd.p (OW (AO.cells [AV.v (Value.int IntKind.i64 (Int.ofNat 0))] 6) (AO.cells [AV.v (Value.int IntKind.i64 (Int.ofNat 0))] 6))).a ((Cnd.p (OW (AO.cells [AV.v (Value.string s)] 18) (AO.cells [AV.v (Value.string s)] 18))).a Cnd.t)))).a (((Cnd.p (sgE [45] (bts s) 0 ≤ s.size ∧ Few s.size)).a ((Cnd.p (VW [AV.v (Value.string (ByteArray.mk (Array.mk [48]))), AV.ptr 1101 0, AV.ptr 1100 0] [AV.v (Value.string (ByteArray.mk (Array.mk [48]))), AV.ptr 1101 0, AV.ptr 1100 0])).a ((Cnd.p (OW (AO.cells [AV.v (Value.int IntKind.i64 (Int.ofNat (sgE [45] (bts s) 0)))] 6) (AO.cells [AV.v (Value.int IntKind.i64 (Int.ofNat (sgE [45] (bts s) 0)))] 6))).a ((Cnd.p (OW (AO.cells [AV.v (Value.string s)] 18) (AO.cells [AV.v (Value.string s)] 18))).a Cnd.t)))).a (((Cnd.p (sgE [48] (bts s) (sgE [45] (bts s) 0) ≤ s.size ∧ Few s.size)).a ((Cnd.p (VW [AV.ptr 1101 0, AV.ptr 1100 0] [AV.ptr 1101 0, AV.ptr 1100 0])).a ((Cnd.p (OW (AO.cells [AV.v (Value.int IntKind.i64 (Int.ofNat (sgE [48] (bts s) (sgE [45] (bts s) 0))))] 6) (AO.cells [AV.v (Value.int IntKind.i64 (Int.ofNat (sgE [48] (bts s) (sgE [45] (bts s) 0))))] 6))).a ((Cnd.p (OW (AO.cells [AV.v (Value.string s)] 18) (AO.cells [AV.v (Value.string s)] 18))).a Cnd.t)))).a (((Cnd.p (digE (bts s) (sgE [48] (bts s) (sgE [45] (bts s) 0)) ≤ s.size ∧ Few s.size)).a ((Cnd.p (VW [AV.v (Value.string (ByteArray.mk (Array.mk [46]))), AV.ptr 1101 0, AV.ptr 1100 0] [AV.v (Value.string (ByteArray.mk (Array.mk [46]))), AV.ptr 1101 0, AV.ptr 1100 0])).a ((Cnd.p (OW (AO.cells [AV.v (Value.int IntKind.i64 (Int.ofNat (digE (bts s) (sgE [48] (bts s) (sgE [45] (bts s) 0)))))] 6) (AO.cells [AV.v (Value.int IntKind.i64 (Int.ofNat (digE (bts s) (sgE [48] (bts s) (sgE [45] (bts s) 0)))))] 6))).a ((Cnd.p (OW (AO.cells [AV.v (Value.string s)] 18) (AO.cells [AV.v (Value.string s)] 18))).a Cnd.t)))).a (((Cnd.p (sgE [46] (bts s) (digE (bts s) (sgE [48] (bts s) (sgE [45] (bts s) 0))) ≤ s.size ∧ Few s.size)).a ((Cnd.p (VW [AV.v (Value.string (ByteArray.mk (Array.mk [101, 69]))), AV.ptr 1101 0, AV.ptr 1100 0] [AV.v (Value.string (ByteArray.mk (Array.mk [101, 69]))), AV.ptr 1101 0, AV.ptr 1100 0])).a ((Cnd.p (OW (AO.cells [AV.v (Value.int IntKind.i64 (Int.ofNat (sgE [46] (bts s) (digE (bts s) (sgE [48] (bts s) (sgE [45] (bts s) 0))))))] 6) (AO.cells [AV.v (Value.int IntKind.i64 (Int.ofNat (sgE [46] (bts s) (digE (bts s) (sgE [48] (bts s) (sgE [45] (bts s) 0))))))] 6))).a ((Cnd.p (OW (AO.cells [AV.v (Value.string s)] 18) (AO.cells [AV.v (Value.string s)] 18))).a Cnd.t)))).a (((Cnd.p (sgE [101, 69] (bts s) (sgE [46] (bts s) (digE (bts s) (sgE [48] (bts s) (sgE [45] (bts s) 0)))) ≤ s.size ∧ Few s.size)).a ((Cnd.p (VW [AV.v (Value.string (ByteArray.mk (Array.mk [43, 45]))), AV.ptr 1101 0, AV.ptr 1100 0] [AV.v (Value.string (ByteArray.mk (Array.mk [43, 45]))), AV.ptr 1101 0, AV.ptr 1100 0])).a ((Cnd.p (OW (AO.cells [AV.v (Value.int IntKind.i64 (Int.ofNat (sgE [101, 69] (bts s) (sgE [46] (bts s) (digE (bts s) (sgE [48] (bts s) (sgE [45] (bts s) 0)))))))] 6) (AO.cells [AV.v (Value.int IntKind.i64 (Int.ofNat (sgE [101, 69] (bts s) (sgE [46] (bts s) (digE (bts s) (sgE [48] (bts s) (sgE [45] (bts s) 0)))))))] 6))).a ((Cnd.p (OW (AO.cells [AV.v (Value.string s)] 18) (AO.cells [AV.v (Value.string s)] 18))).a Cnd.t)))).a (((Cnd.p (sgE [43, 45] (bts s) (sgE [101, 69] (bts s) (sgE [46] (bts s) (digE (bts s) (sgE [48] (bts s) (sgE [45] (bts s) 0))))) ≤ s.size ∧ Few s.size)).a ((Cnd.p (VW [AV.ptr 1101 0, AV.ptr 1100 0] [AV.ptr 1101 0, AV.ptr 1100 0])).a ((Cnd.p (OW (AO.cells [AV.v (Value.int IntKind.i64 (Int.ofNat (sgE [43, 45] (bts s) (sgE [101, 69] (bts s) (sgE [46] (bts s) (digE (bts s) (sgE [48] (bts s) (sgE [45] (bts s) 0))))))))] 6) (AO.cells [AV.v (Value.int IntKind.i64 (Int.ofNat (sgE [43, 45] (bts s) (sgE [101, 69] (bts s) (sgE [46] (bts s) (digE (bts s) (sgE [48] (bts s) (sgE [45] (bts s) 0))))))))] 6))).a ((Cnd.p (OW (AO.cells [AV.v (Value.string s)] 18) (AO.cells [AV.v (Value.string s)] 18))).a Cnd.t)))).a (((Cnd.p (true = true)).a ((Cnd.p (AV.v (Value.int IntKind.i64 (Int.ofNat (digE (bts s) (sgE [43, 45] (bts s) (sgE [101, 69] (bts s) (sgE [46] (bts s) (digE (bts s) (sgE [48] (bts s) (sgE [45] (bts s) 0))))))))) = AV.v (Value.int IntKind.i64 (Int.ofNat (digE (bts s) (sgE [43, 45] (bts s) (sgE [101, 69] (bts s) (sgE [46] (bts s) (digE (bts s) (sgE [48] (bts s) (sgE [45] (bts s) 0))))))))))).a Cnd.t)).a (((Cnd.p (true = true)).a Cnd.t).a ((Cnd.p (true = true)).a ((Cnd.p (AV.v (Value.int IntKind.i64 (Int.ofNat (digE (bts s) (sgE [43, 45] (bts s) (sgE [101, 69] (bts s) (sgE [46] (bts s) (digE (bts s) (sgE [48] (bts s) (sgE [45] (bts s) 0))))))))) = AV.v (Value.int IntKind.i64 (Int.ofNat (digE (bts s) (sgE [43, 45] (bts s) (sgE [101, 69] (bts s) (sgE [46] (bts s) (digE (bts s) (sgE [48] (bts s) (sgE [45] (bts s) 0))))))))))).a Cnd.t)))))))))))) (VT.leaf (AV.tuple [AV.v (Value.int IntKind.i64 (Int.ofNat (digE (bts s) (sgE [43, 45] (bts s) (sgE [101, 69] (bts s) (sgE [46] (bts s) (digE (bts s) (sgE [48] (bts s) (sgE [45] (bts s) 0))))))))), AV.v (Value.bool true)]) [] 1102 (((Cnd.p (0 ≤ s.size ∧ Few s.size)).a ((Cnd.p (VW [AV.v (Value.string (ByteArray.mk (Array.mk [45]))), AV.ptr 1101 0, AV.ptr 1100 0] [AV.v (Value.string (ByteArray.mk (Array.mk [45]))), AV.ptr 1101 0, AV.ptr 1100 0])).a ((Cnd.p (OW (AO.cells [AV.v (Value.int IntKind.i64 (Int.ofNat 0))] 6) (AO.cells [AV.v (Value.int IntKind.i64 (Int.ofNat 0))] 6))).a ((Cnd.p (OW (AO.cells [AV.v (Value.string s)] 18) (AO.cells [AV.v (Value.string s)] 18))).a Cnd.t)))).a (((Cnd.p (sgE [45] (bts s) 0 ≤ s.size ∧ Few s.size)).a ((Cnd.p (VW [AV.v (Value.string (ByteArray.mk (Array.mk [48]))), AV.ptr 1101 0, AV.ptr 1100 0] [AV.v (Value.string (ByteArray.mk (Array.mk [48]))), AV.ptr 1101 0, AV.ptr 1100 0])).a ((Cnd.p (OW (AO.cells [AV.v (Value.int IntKind.i64 (Int.ofNat (sgE [45] (bts s) 0)))] 6) (AO.cells [AV.v (Value.int IntKind.i64 (Int.ofNat (sgE [45] (bts s) 0)))] 6))).a ((Cnd.p (OW (AO.cells [AV.v (Value.string s)] 18) (AO.cells [AV.v (Value.string s)] 18))).a Cnd.t)))).a (((Cnd.p (sgE [48] (bts s) (sgE [45] (bts s) 0) ≤ s.size ∧ Few s.size)).a ((Cnd.p (VW [AV.ptr 1101 0, AV.ptr 1100 0] [AV.ptr 1101 0, AV.ptr 1100 0])).a ((Cnd.p (OW (AO.cells [AV.v (Value.int IntKind.i64 (Int.ofNat (sgE [48] (bts s) (sgE [45] (bts s) 0))))] 6) (AO.cells [AV.v (Value.int IntKind.i64 (Int.ofNat (sgE [48] (bts s) (sgE [45] (bts s) 0))))] 6))).a ((Cnd.p (OW (AO.cells [AV.v (Value.string s)] 18) (AO.cells [AV.v (Value.string s)] 18))).a Cnd.t)))).a (((Cnd.p (digE (bts s) (sgE [48] (bts s) (sgE [45] (bts s) 0)) ≤ s.size ∧ Few s.size)).a ((Cnd.p (VW [AV.v (Value.string (ByteArray.mk (Array.mk [46]))), AV.ptr 1101 0, AV.ptr 1100 0] [AV.v (Value.string (ByteArray.mk (Array.mk [46]))), AV.ptr 1101 0, AV.ptr 1100 0])).a ((Cnd.p (OW (AO.cells [AV.v (Value.int IntKind.i64 (Int.ofNat (digE (bts s) (sgE [48] (bts s) (sgE [45] (bts s) 0)))))] 6) (AO.cells [AV.v (Value.int IntKind.i64 (Int.ofNat (digE (bts s) (sgE [48] (bts s) (sgE [45] (bts s) 0)))))] 6))).a ((Cnd.p (OW (AO.cells [AV.v (Value.string s)] 18) (AO.cells [AV.v (Value.string s)] 18))).a Cnd.t)))).a (((Cnd.p (sgE [46] (bts s) (digE (bts s) (sgE [48] (bts s) (sgE [45] (bts s) 0))) ≤ s.size ∧ Few s.size)).a ((Cnd.p (VW [AV.v (Value.string (ByteArray.mk (Array.mk [101, 69]))), AV.ptr 1101 0, AV.ptr 1100 0] [AV.v (Value.string (ByteArray.mk (Array.mk [101, 69]))), AV.ptr 1101 0, AV.ptr 1100 0])).a ((Cnd.p (OW (AO.cells [AV.v (Value.int IntKind.i64 (Int.ofNat (sgE [46] (bts s) (digE (bts s) (sgE [48] (bts s) (sgE [45] (bts s) 0))))))] 6) (AO.cells [AV.v (Value.int IntKind.i64 (Int.ofNat (sgE [46] (bts s) (digE (bts s) (sgE [48] (bts s) (sgE [45] (bts s) 0))))))] 6))).a ((Cnd.p (OW (AO.cells [AV.v (Value.string s)] 18) (AO.cells [AV.v (Value.string s)] 18))).a Cnd.t)))).a (((Cnd.p (sgE [101, 69] (bts s) (sgE [46] (bts s) (digE (bts s) (sgE [48] (bts s) (sgE [45] (bts s) 0)))) ≤ s.size ∧ Few s.size)).a ((Cnd.p (VW [AV.v (Value.string (ByteArray.mk (Array.mk [43, 45]))), AV.ptr 1101 0, AV.ptr 1100 0] [AV.v (Value.string (ByteArray.mk (Array.mk [43, 45]))), AV.ptr 1101 0, AV.ptr 1100 0])).a ((Cnd.p (OW (AO.cells [AV.v (Value.int IntKind.i64 (Int.ofNat (sgE [101, 69] (bts s) (sgE [46] (bts s) (digE (bts s) (sgE [48] (bts s) (sgE [45] (bts s) 0)))))))] 6) (AO.cells [AV.v (Value.int IntKind.i64 (Int.ofNat (sgE [101, 69] (bts s) (sgE [46] (bts s) (digE (bts s) (sgE [48] (bts s) (sgE [45] (bts s) 0)))))))] 6))).a ((Cnd.p (OW (AO.cells [AV.v (Value.string s)] 18) (AO.cells [AV.v (Value.string s)] 18))).a Cnd.t)))).a (((Cnd.p (sgE [43, 45] (bts s) (sgE [101, 69] (bts s) (sgE [46] (bts s) (digE (bts s) (sgE [48] (bts s) (sgE [45] (bts s) 0))))) ≤ s.size ∧ Few s.size)).a ((Cnd.p (VW [AV.ptr 1101 0, AV.ptr 1100 0] [AV.ptr 1101 0, AV.ptr 1100 0])).a ((Cnd.p (OW (AO.cells [AV.v (Value.int IntKind.i64 (Int.ofNat (sgE [43, 45] (bts s) (sgE [101, 69] (bts s) (sgE [46] (bts s) (digE (bts s) (sgE [48] (bts s) (sgE [45] (bts s) 0))))))))] 6) (AO.cells [AV.v (Value.int IntKind.i64 (Int.ofNat (sgE [43, 45] (bts s) (sgE [101, 69] (bts s) (sgE [46] (bts s) (digE (bts s) (sgE [48] (bts s) (sgE [45] (bts s) 0))))))))] 6))).a ((Cnd.p (OW (AO.cells [AV.v (Value.string s)] 18) (AO.cells [AV.v (Value.string s)] 18))).a Cnd.t)))).a (((Cnd.p (true = true)).a ((Cnd.p (AV.v (Value.int IntKind.i64 (Int.ofNat (digE (bts s) (sgE [43, 45] (bts s) (sgE [101, 69] (bts s) (sgE [46] (bts s) (digE (bts s) (sgE [48] (bts s) (sgE [45] (bts s) 0))))))))) = AV.v (Value.int IntKind.i64 (Int.ofNat (digE (bts s) (sgE [43, 45] (bts s) (sgE [101, 69] (bts s) (sgE [46] (bts s) (digE (bts s) (sgE [48] (bts s) (sgE [45] (bts s) 0))))))))))).a Cnd.t)).a (((Cnd.p (true = true)).a Cnd.t).a ((Cnd.p (true = true)).a ((Cnd.p (AV.v (Value.int IntKind.i64 (Int.ofNat (digE (bts s) (sgE [43, 45] (bts s) (sgE [101, 69] (bts s) (sgE [46] (bts s) (digE (bts s) (sgE [48] (bts s) (sgE [45] (bts s) 0))))))))) = AV.v (Value.int IntKind.i64 (Int.ofNat (digE (bts s) (sgE [43, 45] (bts s) (sgE [101, 69] (bts s) (sgE [46] (bts s) (digE (bts s) (sgE [48] (bts s) (sgE [45] (bts s) 0))))))))))).a Cnd.t))))))))))))) (VT.leaf (AV.tuple [AV.v (Value.int IntKind.i64 (Int.ofNat (sgE [101, 69] (bts s) (sgE [46] (bts s) (digE (bts s) (sgE [48] (bts s) (sgE [45] (bts s) 0))))))), AV.v (Value.bool true)]) [] 1102 (((Cnd.p (0 ≤ s.size ∧ Few s.size)).a ((Cnd.p (VW [AV.v (Value.string (ByteArray.mk (Array.mk [45]))), AV.ptr 1101 0, AV.ptr 1100 0] [AV.v (Value.string (ByteArray.mk (Array.mk [45]))), AV.ptr 1101 0, AV.ptr 1100 0])).a ((Cnd.p (OW (AO.cells [AV.v (Value.int IntKind.i64 (Int.ofNat 0))] 6) (AO.cells [AV.v (Value.int IntKind.i64 (Int.ofNat 0))] 6))).a ((Cnd.p (OW (AO.cells [AV.v (Value.string s)] 18) (AO.cells [AV.v (Value.string s)] 18))).a Cnd.t)))).a (((Cnd.p (sgE [45] (bts s) 0 ≤ s.size ∧ Few s.size)).a ((Cnd.p (VW [AV.v (Value.string (ByteArray.mk (Array.mk [48]))), AV.ptr 1101 0, AV.ptr 1100 0] [AV.v (Value.string (ByteArray.mk (Array.mk [48]))), AV.ptr 1101 0, AV.ptr 1100 0])).a ((Cnd.p (OW (AO.cells [AV.v (Value.int IntKind.i64 (Int.ofNat (sgE [45] (bts s) 0)))] 6) (AO.cells [AV.v (Value.int IntKind.i64 (Int.ofNat (sgE [45] (bts s) 0)))] 6))).a ((Cnd.p (OW (AO.cells [AV.v (Value.string s)] 18) (AO.cells [AV.v (Value.string s)] 18))).a Cnd.t)))).a (((Cnd.p (sgE [48] (bts s) (sgE [45] (bts s) 0) ≤ s.size ∧ Few s.size)).a ((Cnd.p (VW [AV.ptr 1101 0, AV.ptr 1100 0] [AV.ptr 1101 0, AV.ptr 1100 0])).a ((Cnd.p (OW (AO.cells [AV.v (Value.int IntKind.i64 (Int.ofNat (sgE [48] (bts s) (sgE [45] (bts s) 0))))] 6) (AO.cells [AV.v (Value.int IntKind.i64 (Int.ofNat (sgE [48] (bts s) (sgE [45] (bts s) 0))))] 6))).a ((Cnd.p (OW (AO.cells [AV.v (Value.string s)] 18) (AO.cells [AV.v (Value.string s)] 18))).a Cnd.t)))).a (((Cnd.p (digE (bts s) (sgE [48] (bts s) (sgE [45] (bts s) 0)) ≤ s.size ∧ Few s.size)).a ((Cnd.p (VW [AV.v (Value.string (ByteArray.mk (Array.mk [46]))), AV.ptr 1101 0, AV.ptr 1100 0] [AV.v (Value.string (ByteArray.mk (Array.mk [46]))), AV.ptr 1101 0, AV.ptr 1100 0])).a ((Cnd.p (OW (AO.cells [AV.v (Value.int IntKind.i64 (Int.ofNat (digE (bts s) (sgE [48] (bts s) (sgE [45] (bts s) 0)))))] 6) (AO.cells [AV.v (Value.int IntKind.i64 (Int.ofNat (digE (bts s) (sgE [48] (bts s) (sgE [45] (bts s) 0)))))] 6))).a ((Cnd.p (OW (AO.cells [AV.v (Value.string s)] 18) (AO.cells [AV.v (Value.string s)] 18))).a Cnd.t)))).a (((Cnd.p (sgE [46] (bts s) (digE (bts s) (sgE [48] (bts s) (sgE [45] (bts s) 0))) ≤ s.size ∧ Few s.size)).a ((Cnd.p (VW [AV.v (Value.string (ByteArray.mk (Array.mk [101, 69]))), AV.ptr 1101 0, AV.ptr 1100 0] [AV.v (Value.string (ByteArray.mk (Array.mk [101, 69]))), AV.ptr 1101 0, AV.ptr 1100 0])).a ((Cnd.p (OW (AO.cells [AV.v (Value.int IntKind.i64 (Int.ofNat (sgE [46] (bts s) (digE (bts s) (sgE [48] (bts s) (sgE [45] (bts s) 0))))))] 6) (AO.cells [AV.v (Value.int IntKind.i64 (Int.ofNat (sgE [46] (bts s) (digE (bts s) (sgE [48] (bts s) (sgE [45] (bts s) 0))))))] 6))).a ((Cnd.p (OW (AO.cells [AV.v (Value.string s)] 18) (AO.cells [AV.v (Value.string s)] 18))).a Cnd.t)))).a (((Cnd.p (true = true)).a ((Cnd.p (AV.v (Value.int IntKind.i64 (Int.ofNat (sgE [101, 69] (bts s) (sgE [46] (bts s) (digE (bts s) (sgE [48] (bts s) (sgE [45] (bts s) 0))))))) = AV.v (Value.int IntKind.i64 (Int.ofNat (sgE [101, 69] (bts s) (sgE [46] (bts s) (digE (bts s) (sgE [48] (bts s) (sgE [45] (bts s) 0))))))))).a Cnd.t)).a (((Cnd.p (true = true)).a Cnd.t).a ((Cnd.p (true = true)).a ((Cnd.p (AV.v (Value.int IntKind.i64 (Int.ofNat (sgE [101, 69] (bts s) (sgE [46] (bts s) (digE (bts s) (sgE [48] (bts s) (sgE [45] (bts s) 0))))))) = AV.v (Value.int IntKind.i64 (Int.ofNat (sgE [101, 69] (bts s) (sgE [46] (bts s) (digE (bts s) (sgE [48] (bts s) (sgE [45] (bts s) 0))))))))).a Cnd.t))))))))))))) (VT.ite (sgn [46] (bts s) (sgE [48] (bts s) (sgE [45] (bts s) 0))) (VT.ite (!decide (sgE [46] (bts s) (sgE [48] (bts s) (sgE [45] (bts s) 0)) < digE (bts s) (sgE [46] (bts s) (sgE [48] (bts s) (sgE [45] (bts s) 0))))) (VT.leaf (AV.tuple [AV.v (Value.int IntKind.i64 (Int.ofNat (digE (bts s) (sgE [46] (bts s) (sgE [48] (bts s) (sgE [45] (bts s) 0)))))), AV.v (Value.bool false)]) [] 1102 (((Cnd.p (0 ≤ s.size ∧ Few s.size)).a ((Cnd.p (VW [AV.v (Value.string (ByteArray.mk (Array.mk [45]))), AV.ptr 1101 0, AV.ptr 1100 0] [AV.v (Value.string (ByteArray.mk (Array.mk [45]))), AV.ptr 1101 0, AV.ptr 1100 0])).a ((Cnd.p (OW (AO.cells [AV.v (Value.int IntKind.i64 (Int.ofNat 0))] 6) (AO.cells [AV.v (Value.int IntKind.i64 (Int.ofNat 0))] 6))).a ((Cnd.p (OW (AO.cells [AV.v (Value.string s)] 18) (AO.cells [AV.v (Value.string s)] 18))).a Cnd.t)))).a (((Cnd.p (sgE [45] (bts s) 0 ≤ s.size ∧ Few s.size)).a ((Cnd.p (VW [AV.v (Value.string (ByteArray.mk (Array.mk [48]))), AV.ptr 1101 0, AV.ptr 1100 0] [AV.v (Value.string (ByteArray.mk (Array.mk [48]))), AV.ptr 1101 0, AV.ptr 1100 0])).a ((Cnd.p (OW (AO.cells [AV.v (Value.int IntKind.i64 (Int.ofNat (sgE [45] (bts s) 0)))] 6) (AO.cells [AV.v (Value.int IntKind.i64 (Int.ofNat (sgE [45] (bts s) 0)))] 6))).a ((Cnd.p (OW (AO.cells [AV.v (Value.string s)] 18) (AO.cells [AV.v (Value.string s)] 18))).a Cnd.t)))).a (((Cnd.p (sgE [48] (bts s) (sgE [45] (bts s) 0) ≤ s.size ∧ Few s.size)).a ((Cnd.p (VW [AV.v (Value.string (ByteArray.mk (Array.mk [46]))), AV.ptr 1101 0, AV.ptr 1100 0] [AV.v (Value.string (ByteArray.mk (Array.mk [46]))), AV.ptr 1101 0, AV.ptr 1100 0])).a ((Cnd.p (OW (AO.cells [AV.v (Value.int IntKind.i64 (Int.ofNat (sgE [48] (bts s) (sgE [45] (bts s) 0))))] 6) (AO.cells [AV.v (Value.int IntKind.i64 (Int.ofNat (sgE [48] (bts s) (sgE [45] (bts s) 0))))] 6))).a ((Cnd.p (OW (AO.cells [AV.v (Value.string s)] 18) (AO.cells [AV.v (Value.string s)] 18))).a Cnd.t)))).a (((Cnd.p (sgE [46] (bts s) (sgE [48] (bts s) (sgE [45] (bts s) 0)) ≤ s.size ∧ Few s.size)).a ((Cnd.p (VW [AV.ptr 1101 0, AV.ptr 1100 0] [AV.ptr 1101 0, AV.ptr 1100 0])).a ((Cnd.p (OW (AO.cells [AV.v (Value.int IntKind.i64 (Int.ofNat (sgE [46] (bts s) (sgE [48] (bts s) (sgE [45] (bts s) 0)))))] 6) (AO.cells [AV.v (Value.int IntKind.i64 (Int.ofNat (sgE [46] (bts s) (sgE [48] (bts s) (sgE [45] (bts s) 0)))))] 6))).a ((Cnd.p (OW (AO.cells [AV.v (Value.string s)] 18) (AO.cells [AV.v (Value.string s)] 18))).a Cnd.t)))).a (((Cnd.p (true = true)).a ((Cnd.p (AV.v (Value.int IntKind.i64 (Int.ofNat (digE (bts s) (sgE [46] (bts s) (sgE [48] (bts s) (sgE [45] (bts s) 0)))))) = AV.v (Value.int IntKind.i64 (Int.ofNat (digE (bts s) (sgE [46] (bts s) (sgE [48] (bts s) (sgE [45] (bts s) 0)))))))).a Cnd.t)).a (((Cnd.p (true = true)).a Cnd.t).a ((Cnd.p (true = true)).a ((Cnd.p (AV.v (Value.int IntKind.i64 (Int.ofNat (digE (bts s) (sgE [46] (bts s) (sgE [48] (bts s) (sgE [45] (bts s) 0)))))) = AV.v (Value.int IntKind.i64 (Int.ofNat (digE (bts s) (sgE [46] (bts s) (sgE [48] (bts s) (sgE [45] (bts s) 0)))))))).a Cnd.t))))))))) (VT.ite (sgn [101, 69] (bts s) (digE (bts s) (sgE [46] (bts s) (sgE [48] (bts s) (sgE [45] (bts s) 0))))) (VT.ite (!decide (sgE [43, 45] (bts s) (sgE [101, 69] (bts s) (digE (bts s) (sgE [46] (bts s) (sgE [48] (bts s) (sgE [45] (bts s) 0))))) < digE (bts s) (sgE [43, 45] (bts s) (sgE [101, 69] (bts s) (digE (bts s) (sgE [46] (bts s) (sgE [48] (bts s) (sgE [45] (bts s) 0)))))))) (VT.leaf (AV.tuple [AV.v (Value.int IntKind.i64 (Int.ofNat (digE (bts s) (sgE [43, 45] (bts s) (sgE [101, 69] (bts s) (digE (bts s) (sgE [46] (bts s) (sgE [48] (bts s) (sgE [45] (bts s) 0))))))))), AV.v (Value.bool false)]) [] 1102 (((Cnd.p (0 ≤ s.size ∧ Few s.size)).a ((Cnd.p (VW [AV.v (Value.string (ByteArray.mk (Array.mk [45]))), AV.ptr 1101 0, AV.ptr 1100 0] [AV.v (Value.string (ByteArray.mk (Array.mk [45]))), AV.ptr 1101 0, AV.ptr 1100 0])).a ((Cnd.p (OW (AO.cells [AV.v (Value.int IntKind.i64 (Int.ofNat 0))] 6) (AO.cells [AV.v (Value.int IntKind.i64 (Int.ofNat 0))] 6))).a ((Cnd.p (OW (AO.cells [AV.v (Value.string s)] 18) (AO.cells [AV.v (Value.string s)] 18))).a Cnd.t)))).a (((Cnd.p (sgE [45] (bts s) 0 ≤ s.size ∧ Few s.size)).a ((Cnd.p (VW [AV.v (Value.string (ByteArray.mk (Array.mk [48]))), AV.ptr 1101 0, AV.ptr 1100 0] [AV.v (Value.string (ByteArray.mk (Array.mk [48]))), AV.ptr 1101 0, AV.ptr 1100 0])).a ((Cnd.p (OW (AO.cells [AV.v (Value.int IntKind.i64 (Int.ofNat (sgE [45] (bts s) 0)))] 6) (AO.cells [AV.v (Value.int IntKind.i64 (Int.ofNat (sgE [45] (bts s) 0)))] 6))).a ((Cnd.p (OW (AO.cells [AV.v (Value.string s)] 18) (AO.cells [AV.v (Value.string s)] 18))).a Cnd.t)))).a (((Cnd.p (sgE [48] (bts s) (sgE [45] (bts s) 0) ≤ s.size ∧ Few s.size)).a ((Cnd.p (VW [AV.v (Value.string (ByteArray.mk (Array.mk [46]))), AV.ptr 1101 0, AV.ptr 1100 0] [AV.v (Value.string (ByteArray.mk (Array.mk [46]))), AV.ptr 1101 0, AV.ptr 1100 0])).a ((Cnd.p (OW (AO.cells [AV.v (Value.int IntKind.i64 (Int.ofNat (sgE [48] (bts s) (sgE [45] (bts s) 0))))] 6) (AO.cells [AV.v (Value.int IntKind.i64 (Int.ofNat (sgE [48] (bts s) (sgE [45] (bts s) 0))))] 6))).a ((Cnd.p (OW (AO.cells [AV.v (Value.string s)] 18) (AO.cells [AV.v (Value.string s)] 18))).a Cnd.t)))).a (((Cnd.p (sgE [46] (bts s) (sgE [48] (bts s) (sgE [45] (bts s) 0)) ≤ s.size ∧ Few s.size)).a ((Cnd.p (VW [AV.ptr 1101 0, AV.ptr 1100 0] [AV.ptr 1101 0, AV.ptr 1100 0])).a ((Cnd.p (OW (AO.cells [AV.v (Value.int IntKind.i64 (Int.ofNat (sgE [46] (bts s) (sgE [48] (bts s) (sgE [45] (bts s) 0)))))] 6) (AO.cells [AV.v (Value.int IntKind.i64 (Int.ofNat (sgE [46] (bts s) (sgE [48] (bts s) (sgE [45] (bts s) 0)))))] 6))).a ((Cnd.p (OW (AO.cells [AV.v (Value.string s)] 18) (AO.cells [AV.v (Value.string s)] 18))).a Cnd.t)))).a (((Cnd.p (digE (bts s) (sgE [46] (bts s) (sgE [48] (bts s) (sgE [45] (bts s) 0))) ≤ s.size ∧ Few s.size)).a ((Cnd.p (VW [AV.v (Value.string (ByteArray.mk (Array.mk [101, 69]))), AV.ptr 1101 0, AV.ptr 1100 0] [AV.v (Value.string (ByteArray.mk (Array.mk [101, 69]))), AV.ptr 1101 0, AV.ptr 1100 0])).a ((Cnd.p (OW (AO.cells [AV.v (Value.int IntKind.i64 (Int.ofNat (digE (bts s) (sgE [46] (bts s) (sgE [48] (bts s) (sgE [45] (bts s) 0))))))] 6) (AO.cells [AV.v (Value.int IntKind.i64 (Int.ofNat (digE (bts s) (sgE [46] (bts s) (sgE [48] (bts s) (sgE [45] (bts s) 0))))))] 6))).a ((Cnd.p (OW (AO.cells [AV.v (Value.string s)] 18) (AO.cells [AV.v (Value.string s)] 18))).a Cnd.t)))).a (((Cnd.p (sgE [101, 69] (bts s) (digE (bts s) (sgE [46] (bts s) (sgE [48] (bts s) (sgE [45] (bts s) 0)))) ≤ s.size ∧ Few s.size)).a ((Cnd.p (VW [AV.v (Value.string (ByteArray.mk (Array.mk [43, 45]))), AV.ptr 1101 0, AV.ptr 1100 0] [AV.v (Value.string (ByteArray.mk (Array.mk [43, 45]))), AV.ptr 1101 0, AV.ptr 1100 0])).a ((Cnd.p (OW (AO.cells [AV.v (Value.int IntKind.i64 (Int.ofNat (sgE [101, 69] (bts s) (digE (bts s) (sgE [46] (bts s) (sgE [48] (bts s) (sgE [45] (bts s) 0)))))))] 6) (AO.cells [AV.v (Value.int IntKind.i64 (Int.ofNat (sgE [101, 69] (bts s) (digE (bts s) (sgE [46] (bts s) (sgE [48] (bts s) (sgE [45] (bts s) 0)))))))] 6))).a ((Cnd.p (OW (AO.cells [AV.v (Value.string s)] 18) (AO.cells [AV.v (Value.string s)] 18))).a Cnd.t)))).a (((Cnd.p (sgE [43, 45] (bts s) (sgE [101, 69] (bts s) (digE (bts s) (sgE [46] (bts s) (sgE [48] (bts s) (sgE [45] (bts s) 0))))) ≤ s.size ∧ Few s.size)).a ((Cnd.p (VW [AV.ptr 1101 0, AV.ptr 1100 0] [AV.ptr 1101 0, AV.ptr 1100 0])).a ((Cnd.p (OW (AO.cells [AV.v (Value.int IntKind.i64 (Int.ofNat (sgE [43, 45] (bts s) (sgE [101, 69] (bts s) (digE (bts s) (sgE [46] (bts s) (sgE [48] (bts s) (sgE [45] (bts s) 0))))))))] 6) (AO.cells [AV.v (Value.int IntKind.i64 (Int.ofNat (sgE [43, 45] (bts s) (sgE [101, 69] (bts s) (digE (bts s) (sgE [46] (bts s) (sgE [48] (bts s) (sgE [45] (bts s) 0))))))))] 6))).a ((Cnd.p (OW (AO.cells [AV.v (Value.string s)] 18) (AO.cells [AV.v (Value.string s)] 18))).a Cnd.t)))).a (((Cnd.p (true = true)).a ((Cnd.p (AV.v (Value.int IntKind.i64 (Int.ofNat (digE (bts s) (sgE [43, 45] (bts s) (sgE [101, 69] (bts s) (digE (bts s) (sgE [46] (bts s) (sgE [48] (bts s) (sgE [45] (bts s) 0))))))))) = AV.v (Value.int IntKind.i64 (Int.ofNat (digE (bts s) (sgE [43, 45] (bts s) (sgE [101, 69] (bts s) (digE (bts s) (sgE [46] (bts s) (sgE [48] (bts s) (sgE [45] (bts s) 0))))))))))).a Cnd.t)).a (((Cnd.p (true = true)).a Cnd.t).a ((Cnd.p (true = true)).a ((Cnd.p (AV.v (Value.int IntKind.i64 (Int.ofNat (digE (bts s) (sgE [43, 45] (bts s) (sgE [101, 69] (bts s) (digE (bts s) (sgE [46] (bts s) (sgE [48] (bts s) (sgE [45] (bts s) 0))))))))) = AV.v (Value.int IntKind.i64 (Int.ofNat (digE (bts s) (sgE [43, 45] (bts s) (sgE [101, 69] (bts s) (digE (bts s) (sgE [46] (bts s) (sgE [48] (bts s) (sgE [45] (bts s) 0))))))))))).a Cnd.t)))))))))))) (VT.leaf (AV.tuple [AV.v (Value.int IntKind.i64 (Int.ofNat (digE (bts s) (sgE [43, 45] (bts s) (sgE [101, 69] (bts s) (digE (bts s) (sgE [46] (bts s) (sgE [48] (bts s) (sgE [45] (bts s) 0))))))))), AV.v (Value.bool true)]) [] 1102 (((Cnd.p (0 ≤ s.size ∧ Few s.size)).a ((Cnd.p (VW [AV.v (Value.string (ByteArray.mk (Array.mk [45]))), AV.ptr 1101 0, AV.ptr 1100 0] [AV.v (Value.string (ByteArray.mk (Array.mk [45]))), AV.ptr 1101 0, AV.ptr 1100 0])).a ((Cnd.p (OW (AO.cells [AV.v (Value.int IntKind.i64 (Int.ofNat 0))] 6) (AO.cells [AV.v (Value.int IntKind.i64 (Int.ofNat 0))] 6))).a ((Cnd.p (OW (AO.cells [AV.v (Value.string s)] 18) (AO.cells [AV.v (Value.string s)] 18))).a Cnd.t)))).a (((Cnd.p (sgE [45] (bts s) 0 ≤ s.size ∧ Few s.size)).a ((Cnd.p (VW [AV.v (Value.string (ByteArray.mk (Array.mk [48]))), AV.ptr 1101 0, AV.ptr 1100 0] [AV.v (Value.string (ByteArray.mk (Array.mk [48]))), AV.ptr 1101 0, AV.ptr 1100 0])).a ((Cnd.p (OW (AO.cells [AV.v (Value.int IntKind.i64 (Int.ofNat (sgE [45] (bts s) 0)))] 6) (AO.cells [AV.v (Value.int IntKind.i64 (Int.ofNat (sgE [45] (bts s) 0)))] 6))).a ((Cnd.p (OW (AO.cells [AV.v (Value.string s)] 18) (AO.cells [AV.v (Value.string s)] 18))).a Cnd.t)))).a (((Cnd.p (sgE [48] (bts s) (sgE [45] (bts s) 0) ≤ s.size ∧ Few s.size)).a ((Cnd.p (VW [AV.v (Value.string (ByteArray.mk (Array.mk [46]))), AV.ptr 1101 0, AV.ptr 1100 0] [AV.v (Value.string (ByteArray.mk (Array.mk [46]))), AV.ptr 1101 0, AV.ptr 1100 0])).a ((Cnd.p (OW (AO.cells [AV.v (Value.int IntKind.i64 (Int.ofNat (sgE [48] (bts s) (sgE [45] (bts s) 0))))] 6) (AO.cells [AV.v (Value.int IntKind.i64 (Int.ofNat (sgE [48] (bts s) (sgE [45] (bts s) 0))))] 6))).a ((Cnd.p (OW (AO.cells [AV.v (Value.string s)] 18) (AO.cells [AV.v (Value.string s)] 18))).a Cnd.t)))).a (((Cnd.p (sgE [46] (bts s) (sgE [48] (bts s) (sgE [45] (bts s) 0)) ≤ s.size ∧ Few s.size)).a ((Cnd.p (VW [AV.ptr 1101 0, AV.ptr 1100 0] [AV.ptr 1101 0, AV.ptr 1100 0])).a ((Cnd.p (OW (AO.cells [AV.v (Value.int IntKind.i64 (Int.ofNat (sgE [46] (bts s) (sgE [48] (bts s) (sgE [45] (bts s) 0)))))] 6) (AO.cells [AV.v (Value.int IntKind.i64 (Int.ofNat (sgE [46] (bts s) (sgE [48] (bts s) (sgE [45] (bts s) 0)))))] 6))).a ((Cnd.p (OW (AO.cells [AV.v (Value.string s)] 18) (AO.cells [AV.v (Value.string s)] 18))).a Cnd.t)))).a (((Cnd.p (digE (bts s) (sgE [46] (bts s) (sgE [48] (bts s) (sgE [45] (bts s) 0))) ≤ s.size ∧ Few s.size)).a ((Cnd.p (VW [AV.v (Value.string (ByteArray.mk (Array.mk [101, 69]))), AV.ptr 1101 0, AV.ptr 1100 0] [AV.v (Value.string (ByteArray.mk (Array.mk [101, 69]))), AV.ptr 1101 0, AV.ptr 1100 0])).a ((Cnd.p (OW (AO.cells [AV.v (Value.int IntKind.i64 (Int.ofNat (digE (bts s) (sgE [46] (bts s) (sgE [48] (bts s) (sgE [45] (bts s) 0))))))] 6) (AO.cells [AV.v (Value.int IntKind.i64 (Int.ofNat (digE (bts s) (sgE [46] (bts s) (sgE [48] (bts s) (sgE [45] (bts s) 0))))))] 6))).a ((Cnd.p (OW (AO.cells [AV.v (Value.string s)] 18) (AO.cells [AV.v (Value.string s)] 18))).a Cnd.t)))).a (((Cnd.p (sgE [101, 69] (bts s) (digE (bts s) (sgE [46] (bts s) (sgE [48] (bts s) (sgE [45] (bts s) 0)))) ≤ s.size ∧ Few s.size)).a ((Cnd.p (VW [AV.v (Value.string (ByteArray.mk (Array.mk [43, 45]))), AV.ptr 1101 0, AV.ptr 1100 0] [AV.v (Value.string (ByteArray.mk (Array.mk [43, 45]))), AV.ptr 1101 0, AV.ptr 1100 0])).a ((Cnd.p (OW (AO.cells [AV.v (Value.int IntKind.i64 (Int.ofNat (sgE [101, 69] (bts s) (digE (bts s) (sgE [46] (bts s) (sgE [48] (bts s) (sgE [45] (bts s) 0)))))))] 6) (AO.cells [AV.v (Value.int IntKind.i64 (Int.ofNat (sgE [101, 69] (bts s) (digE (bts s) (sgE [46] (bts s) (sgE [48] (bts s) (sgE [45] (bts s) 0)))))))] 6))).a ((Cnd.p (OW (AO.cells [AV.v (Value.string s)] 18) (AO.cells [AV.v (Value.string s)] 18))).a Cnd.t)))).a (((Cnd.p (sgE [43, 45] (bts s) (sgE [101, 69] (bts s) (digE (bts s) (sgE [46] (bts s) (sgE [48] (bts s) (sgE [45] (bts s) 0))))) ≤ s.size ∧ Few s.size)).a ((Cnd.p (VW [AV.ptr 1101 0, AV.ptr 1100 0] [AV.ptr 1101 0, AV.ptr 1100 0])).a ((Cnd.p (OW (AO.cells [AV.v (Value.int IntKind.i64 (Int.ofNat (sgE [43, 45] (bts s) (sgE [101, 69] (bts s) (digE (bts s) (sgE [46] (bts s) (sgE [48] (bts s) (sgE [45] (bts s) 0))))))))] 6) (AO.cells [AV.v (Value.int IntKind.i64 (Int.ofNat (sgE [43, 45] (bts s) (sgE [101, 69] (bts s) (digE (bts s) (sgE [46] (bts s) (sgE [48] (bts s) (sgE [45] (bts s) 0))))))))] 6))).a ((Cnd.p (OW (AO.cells [AV.v (Value.string s)] 18) (AO.cells [AV.v (Value.string s)] 18))).a Cnd.t)))).a (((Cnd.p (true = true)).a ((Cnd.p (AV.v (Value.int IntKind.i64 (Int.ofNat (digE (bts s) (sgE [43, 45] (bts s) (sgE [101, 69] (bts s) (digE (bts s) (sgE [46] (bts s) (sgE [48] (bts s) (sgE [45] (bts s) 0))))))))) = AV.v (Value.int IntKind.i64 (Int.ofNat (digE (bts s) (sgE [43, 45] (bts s) (sgE [101, 69] (bts s) (digE (bts s) (sgE [46] (bts s) (sgE [48] (bts s) (sgE [45] (bts s) 0))))))))))).a Cnd.t)).a (((Cnd.p (true = true)).a Cnd.t).a ((Cnd.p (true = true)).a ((Cnd.p (AV.v (Value.int IntKind.i64 (Int.ofNat (digE (bts s) (sgE [43, 45] (bts s) (sgE [101, 69] (bts s) (digE (bts s) (sgE [46] (bts s) (sgE [48] (bts s) (sgE [45] (bts s) 0))))))))) = AV.v (Value.int IntKind.i64 (Int.ofNat (digE (bts s) (sgE [43, 45] (bts s) (sgE [101, 69] (bts s) (digE (bts s) (sgE [46] (bts s) (sgE [48] (bts s) (sgE [45] (bts s) 0))))))))))).a Cnd.t))))))))))))) (VT.leaf (AV.tuple [AV.v (Value.int IntKind.i64 (Int.ofNat (sgE [101, 69] (bts s) (digE (bts s) (sgE [46] (bts s) (sgE [48] (bts s) (sgE [45] (bts s) 0))))))), AV.v (Value.bool true)]) [] 1102 (((Cnd.p (0 ≤ s.size ∧ Few s.size)).a ((Cnd.p (VW [AV.v (Value.string (ByteArray.mk (Array.mk [45]))), AV.ptr 1101 0, AV.ptr 1100 0] [AV.v (Value.string (ByteArray.mk (Array.mk [45]))), AV.ptr 1101 0, AV.ptr 1100 0])).a ((Cnd.p (OW (AO.cells [AV.v (Value.int IntKind.i64 (Int.ofNat 0))] 6) (AO.cells [AV.v (Value.int IntKind.i64 (Int.ofNat 0))] 6))).a ((Cnd.p (OW (AO.cells [AV.v (Value.string s)] 18) (AO.cells [AV.v (Value.string s)] 18))).a Cnd.t)))).a (((Cnd.p (sgE [45] (bts s) 0 ≤ s.size ∧ Few s.size)).a ((Cnd.p (VW [AV.v (Value.string (ByteArray.mk (Array.mk [48]))), AV.ptr 1101 0, AV.ptr 1100 0] [AV.v (Value.string (ByteArray.mk (Array.mk [48]))), AV.ptr 1101 0, AV.ptr 1100 0])).a ((Cnd.p (OW (AO.cells [AV.v (Value.int IntKind.i64 (Int.ofNat (sgE [45] (bts s) 0)))] 6) (AO.cells [AV.v (Value.int IntKind.i64 (Int.ofNat (sgE [45] (bts s) 0)))] 6))).a ((Cnd.p (OW (AO.cells [AV.v (Value.string s)] 18) (AO.cells [AV.v (Value.string s)] 18))).a Cnd.t)))).a (((Cnd.p (sgE [48] (bts s) (sgE [45] (bts s) 0) ≤ s.size ∧ Few s.size)).a ((Cnd.p (VW [AV.v (Value.string (ByteArray.mk (Array.mk [46]))), AV.ptr 1101 0, AV.ptr 1100 0] [AV.v (Value.string (ByteArray.mk (Array.mk [46]))), AV.ptr 1101 0, AV.ptr 1100 0])).a ((Cnd.p (OW (AO.cells [AV.v (Value.int IntKind.i64 (Int.ofNat (sgE [48] (bts s) (sgE [45] (bts s) 0))))] 6) (AO.cells [AV.v (Value.int IntKind.i64 (Int.ofNat (sgE [48] (bts s) (sgE [45] (bts s) 0))))] 6))).a ((Cnd.p (OW (AO.cells [AV.v (Value.string s)] 18) (AO.cells [AV.v (Value.string s)] 18))).a Cnd.t)))).a (((Cnd.p (sgE [46] (bts s) (sgE [48] (bts s) (sgE [45] (bts s) 0)) ≤ s.size ∧ Few s.size)).a ((Cnd.p (VW [AV.ptr 1101 0, AV.ptr 1100 0] [AV.ptr 1101 0, AV.ptr 1100 0])).a ((Cnd.p (OW (AO.cells [AV.v (Value.int IntKind.i64 (Int.ofNat (sgE [46] (bts s) (sgE [48] (bts s) (sgE [45] (bts s) 0)))))] 6) (AO.cells [AV.v (Value.int IntKind.i64 (Int.ofNat (sgE [46] (bts s) (sgE [48] (bts s) (sgE [45] (bts s) 0)))))] 6))).a ((Cnd.p (OW (AO.cells [AV.v (Value.string s)] 18) (AO.cells [AV.v (Value.string s)] 18))).a Cnd.t)))).a (((Cnd.p (digE (bts s) (sgE [46] (bts s) (sgE [48] (bts s) (sgE [45] (bts s) 0))) ≤ s.size ∧ Few s.size)).a ((Cnd.p (VW [AV.v (Value.string (ByteArray.mk (Array.mk [101, 69]))), AV.ptr 1101 0, AV.ptr 1100 0] [AV.v (Value.string (ByteArray.mk (Array.mk [101, 69]))), AV.ptr 1101 0, AV.ptr 1100 0])).a ((Cnd.p (OW (AO.cells [AV.v (Value.int IntKind.i64 (Int.ofNat (digE (bts s) (sgE [46] (bts s) (sgE [48] (bts s) (sgE [45] (bts s) 0))))))] 6) (AO.cells [AV.v (Value.int IntKind.i64 (Int.ofNat (digE (bts s) (sgE [46] (bts s) (sgE [48] (bts s) (sgE [45] (bts s) 0))))))] 6))).a ((Cnd.p (OW (AO.cells [AV.v (Value.string s)] 18) (AO.cells [AV.v (Value.string s)] 18))).a Cnd.t)))).a (((Cnd.p (true = true)).a ((Cnd.p (AV.v (Value.int IntKind.i64 (Int.ofNat (sgE [101, 69] (bts s) (digE (bts s) (sgE [46] (bts s) (sgE [48] (bts s) (sgE [45] (bts s) 0))))))) = AV.v (Value.int IntKind.i64 (Int.ofNat (sgE [101, 69] (bts s) (digE (bts s) (sgE [46] (bts s) (sgE [48] (bts s) (sgE [45] (bts s) 0))))))))).a Cnd.t)).a (((Cnd.p (true = true)).a Cnd.t).a ((Cnd.p (true = true)).a ((Cnd.p (AV.v (Value.int IntKind.i64 (Int.ofNat (sgE [101, 69] (bts s) (digE (bts s) (sgE [46] (bts s) (sgE [48] (bts s) (sgE [45] (bts s) 0))))))) = AV.v (Value.int IntKind.i64 (Int.ofNat (sgE [101, 69] (bts s) (digE (bts s) (sgE [46] (bts s) (sgE [48] (bts s) (sgE [45] (bts s) 0))))))))).a Cnd.t)))))))))))) (VT.ite (sgn [101, 69] (bts s) (sgE [46] (bts s) (sgE [48] (bts s) (sgE [45] (bts s) 0)))) (VT.ite (!decide (sgE [43, 45] (bts s) (sgE [101, 69] (bts s) (sgE [46] (bts s) (sgE [48] (bts s) (sgE [45] (bts s) 0)))) < digE (bts s) (sgE [43, 45] (bts s) (sgE [101, 69] (bts s) (sgE [46] (bts s) (sgE [48] (bts s) (sgE [45] (bts s) 0))))))) (VT.leaf (AV.tuple [AV.v (Value.int IntKind.i64 (Int.ofNat (digE (bts s) (sgE [43, 45] (bts s) (sgE [101, 69] (bts s) (sgE [46] (bts s) (sgE [48] (bts s) (sgE [45] (bts s) 0)))))))), AV.v (Value.bool false)]) [] 1102 (((Cnd.p (0 ≤ s.size ∧ Few s.size)).a ((Cnd.p (VW [AV.v (Value.string (ByteArray.mk (Array.mk [45]))), AV.ptr 1101 0, AV.ptr 1100 0] [AV.v (Value.string (ByteArray.mk (Array.mk [45]))), AV.ptr 1101 0, AV.ptr 1100 0])).a ((Cnd.p (OW (AO.cells [AV.v (Value.int IntKind.i64 (Int.ofNat 0))] 6) (AO.cells [AV.v (Value.int IntKind.i64 (Int.ofNat 0))] 6))).a ((Cnd.p (OW (AO.cells [AV.v (Value.string s)] 18) (AO.cells [AV.v (Value.string s)] 18))).a Cnd.t)))).a (((Cnd.p (sgE [45] (bts s) 0 ≤ s.size ∧ Few s.size)).a ((Cnd.p (VW [AV.v (Value.string (ByteArray.mk (Array.mk [48]))), AV.ptr 1101 0, AV.ptr 1100 0] [AV.v (Value.string (ByteArray.mk (Array.mk [48]))), AV.ptr 1101 0, AV.ptr 1100 0])).a ((Cnd.p (OW (AO.cells [AV.v (Value.int IntKind.i64 (Int.ofNat (sgE [45] (bts s) 0)))] 6) (AO.cells [AV.v (Value.int IntKind.i64 (Int.ofNat (sgE [45] (bts s) 0)))] 6))).a ((Cnd.p (OW (AO.cells [AV.v (Value.string s)] 18) (AO.cells [AV.v (Value.string s)] 18))).a Cnd.t)))).a (((Cnd.p (sgE [48] (bts s) (sgE [45] (bts s) 0) ≤ s.size ∧ Few s.size)).a ((Cnd.p (VW [AV.v (Value.string (ByteArray.mk (Array.mk [46]))), AV.ptr 1101 0, AV.ptr 1100 0] [AV.v (Value.string (ByteArray.mk (Array.mk [46]))), AV.ptr 1101 0, AV.ptr 1100 0])).a ((Cnd.p (OW (AO.cells [AV.v (Value.int IntKind.i64 (Int.ofNat (sgE [48] (bts s) (sgE [45] (bts s) 0))))] 6) (AO.cells [AV.v (Value.int IntKind.i64 (Int.ofNat (sgE [48] (bts s) (sgE [45] (bts s) 0))))] 6))).a ((Cnd.p (OW (AO.cells [AV.v (Value.string s)] 18) (AO.cells [AV.v (Value.string s)] 18))).a Cnd.t)))).a (((Cnd.p (sgE [46] (bts s) (sgE [48] (bts s) (sgE [45] (bts s) 0)) ≤ s.size ∧ Few s.size)).a ((Cnd.p (VW [AV.v (Value.string (ByteArray.mk (Array.mk [101, 69]))), AV.ptr 1101 0, AV.ptr 1100 0] [AV.v (Value.string (ByteArray.mk (Array.mk [101, 69]))), AV.ptr 1101 0, AV.ptr 1100 0])).a ((Cnd.p (OW (AO.cells [AV.v (Value.int IntKind.i64 (Int.ofNat (sgE [46] (bts s) (sgE [48] (bts s) (sgE [45] (bts s) 0)))))] 6) (AO.cells [AV.v (Value.int IntKind.i64 (Int.ofNat (sgE [46] (bts s) (sgE [48] (bts s) (sgE [45] (bts s) 0)))))] 6))).a ((Cnd.p (OW (AO.cells [AV.v (Value.string s)] 18) (AO.cells [AV.v (Value.string s)] 18))).a Cnd.t)))).a (((Cnd.p (sgE [101, 69] (bts s) (sgE [46] (bts s) (sgE [48] (bts s) (sgE [45] (bts s) 0))) ≤ s.size ∧ Few s.size)).a ((Cnd.p (VW [AV.v (Value.string (ByteArray.mk (Array.mk [43, 45]))), AV.ptr 1101 0, AV.ptr 1100 0] [AV.v (Value.string (ByteArray.mk (Array.mk [43, 45]))), AV.ptr 1101 0, AV.ptr 1100 0])).a ((Cnd.p (OW (AO.cells [AV.v (Value.int IntKind.i64 (Int.ofNat (sgE [101, 69] (bts s) (sgE [46] (bts s) (sgE [48] (bts s) (sgE [45] (bts s) 0))))))] 6) (AO.cells [AV.v (Value.int IntKind.i64 (Int.ofNat (sgE [101, 69] (bts s) (sgE [46] (bts s) (sgE [48] (bts s) (sgE [45] (bts s) 0))))))] 6))).a ((Cnd.p (OW (AO.cells [AV.v (Value.string s)] 18) (AO.cells [AV.v (Value.string s)] 18))).a Cnd.t)))).a (((Cnd.p (sgE [43, 45] (bts s) (sgE [101, 69] (bts s) (sgE [46] (bts s) (sgE [48] (bts s) (sgE [45] (bts s) 0)))) ≤ s.size ∧ Few s.size)).a ((Cnd.p (VW [AV.ptr 1101 0, AV.ptr 1100 0] [AV.ptr 1101 0, AV.ptr 1100 0])).a ((Cnd.p (OW (AO.cells [AV.v (Value.int IntKind.i64 (Int.ofNat (sgE [43, 45] (bts s) (sgE [101, 69] (bts s) (sgE [46] (bts s) (sgE [48] (bts s) (sgE [45] (bts s) 0)))))))] 6) (AO.cells [AV.v (Value.int IntKind.i64 (Int.ofNat (sgE [43, 45] (bts s) (sgE [101, 69] (bts s) (sgE [46] (bts s) (sgE [48] (bts s) (sgE [45] (bts s) 0)))))))] 6))).a ((Cnd.p (OW (AO.cells [AV.v (Value.string s)] 18) (AO.cells [AV.v (Value.string s)] 18))).a Cnd.t)))).a (((Cnd.p (true = true)).a ((Cnd.p (AV.v (Value.int IntKind.i64 (Int.ofNat (digE (bts s) (sgE [43, 45] (bts s) (sgE [101, 69] (bts s) (sgE [46] (bts s) (sgE [48] (bts s) (sgE [45] (bts s) 0)))))))) = AV.v (Value.int IntKind.i64 (Int.ofNat (digE (bts s) (sgE [43, 45] (bts s) (sgE [101, 69] (bts s) (sgE [46] (bts s) (sgE [48] (bts s) (sgE [45] (bts s) 0)))))))))).a Cnd.t)).a (((Cnd.p (true = true)).a Cnd.t).a ((Cnd.p (true = true)).a ((Cnd.p (AV.v (Value.int IntKind.i64 (Int.ofNat (digE (bts s) (sgE [43, 45] (bts s) (sgE [101, 69] (bts s) (sgE [46] (bts s) (sgE [48] (bts s) (sgE [45] (bts s) 0)))))))) = AV.v (Value.int IntKind.i64 (Int.ofNat (digE (bts s) (sgE [43, 45] (bts s) (sgE [101, 69] (bts s) (sgE [46] (bts s) (sgE [48] (bts s) (sgE [45] (bts s) 0)))))))))).a Cnd.t))))))))))) (VT.leaf (AV.tuple [AV.v (Value.int IntKind.i64 (Int.ofNat (digE (bts s) (sgE [43, 45] (bts s) (sgE [101, 69] (bts s) (sgE [46] (bts s) (sgE [48] (bts s) (sgE [45] (bts s) 0)))))))), AV.v (Value.bool true)]) [] 1102 (((Cnd.p (0 ≤ s.size ∧ Few s.size)).a ((Cnd.p (VW [AV.v (Value.string (ByteArray.mk (Array.mk [45]))), AV.ptr 1101 0, AV.ptr 1100 0] [AV.v (Value.string (ByteArray.mk (Array.mk [45]))), AV.ptr 1101 0, AV.ptr 1100 0])).a ((Cnd.p (OW (AO.cells [AV.v (Value.int IntKind.i64 (Int.ofNat 0))] 6) (AO.cells [AV.v (Value.int IntKind.i64 (Int.ofNat 0))] 6))).a ((Cnd.p (OW (AO.cells [AV.v (Value.string s)] 18) (AO.cells [AV.v (Value.string s)] 18))).a Cnd.t)))).a (((Cnd.p (sgE [45] (bts s) 0 ≤ s.size ∧ Few s.size)).a ((Cnd.p (VW [AV.v (Value.string (ByteArray.mk (Array.mk [48]))), AV.ptr 1101 0, AV.ptr 1100 0] [AV.v (Value.string (ByteArray.mk (Array.mk [48]))), AV.ptr 1101 0, AV.ptr 1100 0])).a ((Cnd.p (OW (AO.cells [AV.v (Value.int IntKind.i64 (Int.ofNat (sgE [45] (bts s) 0)))] 6) (AO.cells [AV.v (Value.int IntKind.i64 (Int.ofNat (sgE [45] (bts s) 0)))] 6))).a ((Cnd.p (OW (AO.cells [AV.v (Value.string s)] 18) (AO.cells [AV.v (Value.string s)] 18))).a Cnd.t)))).a (((Cnd.p (sgE [48] (bts s) (sgE [45] (bts s) 0) ≤ s.size ∧ Few s.size)).a ((Cnd.p (VW [AV.v (Value.string (ByteArray.mk (Array.mk [46]))), AV.ptr 1101 0, AV.ptr 1100 0] [AV.v (Value.string (ByteArray.mk (Array.mk [46]))), AV.ptr 1101 0, AV.ptr 1100 0])).a ((Cnd.p (OW (AO.cells [AV.v (Value.int IntKind.i64 (Int.ofNat (sgE [48] (bts s) (sgE [45] (bts s) 0))))] 6) (AO.cells [AV.v (Value.int IntKind.i64 (Int.ofNat (sgE [48] (bts s) (sgE [45] (bts s) 0))))] 6))).a ((Cnd.p (OW (AO.cells [AV.v (Value.string s)] 18) (AO.cells [AV.v (Value.string s)] 18))).a Cnd.t)))).a (((Cnd.p (sgE [46] (bts s) (sgE [48] (bts s) (sgE [45] (bts s) 0)) ≤ s.size ∧ Few s.size)).a ((Cnd.p (VW [AV.v (Value.string (ByteArray.mk (Array.mk [101, 69]))), AV.ptr 1101 0, AV.ptr 1100 0] [AV.v (Value.string (ByteArray.mk (Array.mk [101, 69]))), AV.ptr 1101 0, AV.ptr 1100 0])).a ((Cnd.p (OW (AO.cells [AV.v (Value.int IntKind.i64 (Int.ofNat (sgE [46] (bts s) (sgE [48] (bts s) (sgE [45] (bts s) 0)))))] 6) (AO.cells [AV.v (Value.int IntKind.i64 (Int.ofNat (sgE [46] (bts s) (sgE [48] (bts s) (sgE [45] (bts s) 0)))))] 6))).a ((Cnd.p (OW (AO.cells [AV.v (Value.string s)] 18) (AO.cells [AV.v (Value.string s)] 18))).a Cnd.t)))).a (((Cnd.p (sgE [101, 69] (bts s) (sgE [46] (bts s) (sgE [48] (bts s) (sgE [45] (bts s) 0))) ≤ s.size ∧ Few s.size)).a ((Cnd.p (VW [AV.v (Value.string (ByteArray.mk (Array.mk [43, 45]))), AV.ptr 1101 0, AV.ptr 1100 0] [AV.v (Value.string (ByteArray.mk (Array.mk [43, 45]))), AV.ptr 1101 0, AV.ptr 1100 0])).a ((Cnd.p (OW (AO.cells [AV.v (Value.int IntKind.i64 (Int.ofNat (sgE [101, 69] (bts s) (sgE [46] (bts s) (sgE [48] (bts s) (sgE [45] (bts s) 0))))))] 6) (AO.cells [AV.v (Value.int IntKind.i64 (Int.ofNat (sgE [101, 69] (bts s) (sgE [46] (bts s) (sgE [48] (bts s) (sgE [45] (bts s) 0))))))] 6))).a ((Cnd.p (OW (AO.cells [AV.v (Value.string s)] 18) (AO.cells [AV.v (Value.string s)] 18))).a Cnd.t)))).a (((Cnd.p (sgE [43, 45] (bts s) (sgE [101, 69] (bts s) (sgE [46] (bts s) (sgE [48] (bts s) (sgE [45] (bts s) 0)))) ≤ s.size ∧ Few s.size)).a ((Cnd.p (VW [AV.ptr 1101 0, AV.ptr 1100 0] [AV.ptr 1101 0, AV.ptr 1100 0])).a ((Cnd.p (OW (AO.cells [AV.v (Value.int IntKind.i64 (Int.ofNat (sgE [43, 45] (bts s) (sgE [101, 69] (bts s) (sgE [46] (bts s) (sgE [48] (bts s) (sgE [45] (bts s) 0)))))))] 6) (AO.cells [AV.v (Value.int IntKind.i64 (Int.ofNat (sgE [43, 45] (bts s) (sgE [101, 69] (bts s) (sgE [46] (bts s) (sgE [48] (bts s) (sgE [45] (bts s) 0)))))))] 6))).a ((Cnd.p (OW (AO.cells [AV.v (Value.string s)] 18) (AO.cells [AV.v (Value.string s)] 18))).a Cnd.t)))).a (((Cnd.p (true = true)).a ((Cnd.p (AV.v (Value.int IntKind.i64 (Int.ofNat (digE (bts s) (sgE [43, 45] (bts s) (sgE [101, 69] (bts s) (sgE [46] (bts s) (sgE [48] (bts s) (sgE [45] (bts s) 0)))))))) = AV.v (Value.int IntKind.i64 (Int.ofNat (digE (bts s) (sgE [43, 45] (bts s) (sgE [101, 69] (bts s) (sgE [46] (bts s) (sgE [48] (bts s) (sgE [45] (bts s) 0)))))))))).a Cnd.t)).a (((Cnd.p (true = true)).a Cnd.t).a ((Cnd.p (true = true)).a ((Cnd.p (AV.v (Value.int IntKind.i64 (Int.ofNat (digE (bts s) (sgE [43, 45] (bts s) (sgE [101, 69] (bts s) (sgE [46] (bts s) (sgE [48] (bts s) (sgE [45] (bts s) 0)))))))) = AV.v (Value.int IntKind.i64 (Int.ofNat (digE (bts s) (sgE [43, 45] (bts s) (sgE [101, 69] (bts s) (sgE [46] (bts s) (sgE [48] (bts s) (sgE [45] (bts s) 0)))))))))).a Cnd.t)))))))))))) (VT.leaf (AV.tuple [AV.v (Value.int IntKind.i64 (Int.ofNat (sgE [101, 69] (bts s) (sgE [46] (bts s) (sgE [48] (bts s) (sgE [45] (bts s) 0)))))), AV.v (Value.bool true)]) [] 1102 (((Cnd.p (0 ≤ s.size ∧ Few s.size)).a ((Cnd.p (VW [AV.v (Value.string (ByteArray.mk (Array.mk [45]))), AV.ptr 1101 0, AV.ptr 1100 0] [AV.v (Value.string (ByteArray.mk (Array.mk [45]))), AV.ptr 1101 0, AV.ptr 1100 0])).a ((Cnd.p (OW (AO.cells [AV.v (Value.int IntKind.i64 (Int.ofNat 0))] 6) (AO.cells [AV.v (Value.int IntKind.i64 (Int.ofNat 0))] 6))).a ((Cnd.p (OW (AO.cells [AV.v (Value.string s)] 18) (AO.cells [AV.v (Value.string s)] 18))).a Cnd.t)))).a (((Cnd.p (sgE [45] (bts s) 0 ≤ s.size ∧ Few s.size)).a ((Cnd.p (VW [AV.v (Value.string (ByteArray.mk (Array.mk [48]))), AV.ptr 1101 0, AV.ptr 1100 0] [AV.v (Value.string (ByteArray.mk (Array.mk [48]))), AV.ptr 1101 0, AV.ptr 1100 0])).a ((Cnd.p (OW (AO.cells [AV.v (Value.int IntKind.i64 (Int.ofNat (sgE [45] (bts s) 0)))] 6) (AO.cells [AV.v (Value.int IntKind.i64 (Int.ofNat (sgE [45] (bts s) 0)))] 6))).a ((Cnd.p (OW (AO.cells [AV.v (Value.string s)] 18) (AO.cells [AV.v (Value.string s)] 18))).a Cnd.t)))).a (((Cnd.p (sgE [48] (bts s) (sgE [45] (bts s) 0) ≤ s.size ∧ Few s.size)).a ((Cnd.p (VW [AV.v (Value.string (ByteArray.mk (Array.mk [46]))), AV.ptr 1101 0, AV.ptr 1100 0] [AV.v (Value.string (ByteArray.mk (Array.mk [46]))), AV.ptr 1101 0, AV.ptr 1100 0])).a ((Cnd.p (OW (AO.cells [AV.v (Value.int IntKind.i64 (Int.ofNat (sgE [48] (bts s) (sgE [45] (bts s) 0))))] 6) (AO.cells [AV.v (Value.int IntKind.i64 (Int.ofNat (sgE [48] (bts s) (sgE [45] (bts s) 0))))] 6))).a ((Cnd.p (OW (AO.cells [AV.v (Value.string s)] 18) (AO.cells [AV.v (Value.string s)] 18))).a Cnd.t)))).a (((Cnd.p (sgE [46] (bts s) (sgE [48] (bts s) (sgE [45] (bts s) 0)) ≤ s.size ∧ Few s.size)).a ((Cnd.p (VW [AV.v (Value.string (ByteArray.mk (Array.mk [101, 69]))), AV.ptr 1101 0, AV.ptr 1100 0] [AV.v (Value.string (ByteArray.mk (Array.mk [101, 69]))), AV.ptr 1101 0, AV.ptr 1100 0])).a ((Cnd.p (OW (AO.cells [AV.v (Value.int IntKind.i64 (Int.ofNat (sgE [46] (bts s) (sgE [48] (bts s) (sgE [45] (bts s) 0)))))] 6) (AO.cells [AV.v (Value.int IntKind.i64 (Int.ofNat (sgE [46] (bts s) (sgE [48] (bts s) (sgE [45] (bts s) 0)))))] 6))).a ((Cnd.p (OW (AO.cells [AV.v (Value.string s)] 18) (AO.cells [AV.v (Value.string s)] 18))).a Cnd.t)))).a (((Cnd.p (true = true)).a ((Cnd.p (AV.v (Value.int IntKind.i64 (Int.ofNat (sgE [101, 69] (bts s) (sgE [46] (bts s) (sgE [48] (bts s) (sgE [45] (bts s) 0)))))) = AV.v (Value.int IntKind.i64 (Int.ofNat (sgE [101, 69] (bts s) (sgE [46] (bts s) (sgE [48] (bts s) (sgE [45] (bts s) 0)))))))).a Cnd.t)).a (((Cnd.p (true = true)).a Cnd.t).a ((Cnd.p (true = true)).a ((Cnd.p (AV.v (Value.int IntKind.i64 (Int.ofNat (sgE [101, 69] (bts s) (sgE [46] (bts s) (sgE [48] (bts s) (sgE [45] (bts s) 0)))))) = AV.v (Value.int IntKind.i64 (Int.ofNat (sgE [101, 69] (bts s) (sgE [46] (bts s) (sgE [48] (bts s) (sgE [45] (bts s) 0)))))))).a Cnd.t))))))))))) := by kernel_rfl
end
end Go.Proofs.YtdphpillcaajpaaDoor.Js

/- Json: how long a number is. -/
set_option linter.unusedVariables false
set_option linter.unusedSimpArgs false
set_option maxRecDepth 100000
namespace Go.Proofs.YtdphpillcaajpaaDoor.Js
open Go Go.RowKit Go.Proofs.YtdphpillcaajpaaDoor.Eng Go.Proofs.YtdphpillcaajpaaDoor.Kit
theorem ltFC {n : Nat} : decide (Int.ofNat n < (n : Int)) = false := decide_eq_false (by simp only [Int.ofNat_eq_natCast]; omega)
theorem ltTC {j n : Nat} (h : j < n) : decide (Int.ofNat j < (n : Int)) = true := decide_eq_true (by simp only [Int.ofNat_eq_natCast]; omega)
theorem wk_bvE {b b' : Bool} (h : b = b') : Wk (.v (.bool b)) (.v (.bool b')) := by subst h; exact Wk.refl _
theorem isD_iff (x : UInt8) : isD x = true ↔ 48 ≤ x.toNat ∧ x.toNat ≤ 57 := by
  unfold isD; rw [Bool.and_eq_true, decide_eq_true_eq, decide_eq_true_eq]
theorem bts_len (s : ByteArray) : (bts s).length = s.size := rfl
theorem bts_get {s : ByteArray} {n : Nat} (h : n < s.size) : (bts s)[n]? = some ((bts s).getD n 0) := by
  have h' : n < (bts s).length := h
  rw [List.getD_eq_getElem?_getD, List.getElem?_eq_getElem h']
  rfl
theorem few_wrap {i n : Nat} (h : Few n) (hi : i < n) : IntKind.i64.wrap (Int.ofNat i + Int.ofNat 1) = Int.ofNat (i + 1) := wrap_succ i (by unfold Few at h; omega)
theorem few_le {a b : Nat} (h : Few b) (hab : a ≤ b) : Few a := by unfold Few at *; omega
theorem dg_loop (s : ByteArray) (hs : Few s.size) (m e : Nat) (hm : m ≤ s.size) (he : digE (bts s) m = e) : LTri Tryd.prog default (loopN fDig 2) (tms 0 26 (aD m)) (oN m s) (.exit 0) (tms 0 26 (aD m)) (oN e s) := by
  refine ltri_run (W := default) (g := fDig) (b := loopN fDig 2) (σ := {i : Nat // i ≤ s.size ∧ digE (bts s) i = e}) 26 (fun _ => aD m) (fun i => oN i.1 s) (.exit 0) (aD m) (oN e s) (fun i => s.size - i.1) [0, 1] [0, 1, 3] (by intro h; cases h) (fun _ => rfl) rfl ?_ ⟨m, hm, he⟩
  rintro ⟨i, hi, hE⟩
  simp only
  by_cases h1 : i < s.size
  · obtain ⟨x, hx⟩ : ∃ x, (bts s).getD i 0 = x := ⟨_, rfl⟩
    have hg := bts_get h1
    rw [hx] at hg
    have hby : Wk (AV.v (.int .u8 (s.data.toList.getD i 0).toNat)) (byv x) := by rw [show s.data.toList.getD i 0 = x from hx]; exact Wk.refl _
    have hw := few_wrap hs h1
    have e1 := ltTC h1
    by_cases hd : isD x = true
    · have h48 := (isD_iff x).1 hd
      rw [digE_step hg hd] at hE
      refine ⟨[], hDg x i true true true, [], fun _ _ => noC, fun _ _ => noL, fun F => ?_⟩
      refine cast (congrArg (VAll _) (oDgY_eq s x m i F).symm) ⟨⟨?_, rfl, .inl ⟨rfl, ⟨i + 1, h1, hE⟩, sub_down h1, [], rfl, rfl, ⟨Wk.refl _, Wk.refl _, Wk.refl _, trivial⟩, ⟨_, rfl, OW.refl _⟩, ⟨_, rfl, OW.refl _⟩, trivial⟩⟩⟩
      simp only [Cnd.holds, h1, e1, Nat.blt_eq, true_and, and_true]
      and_intros
      all_goals first
        | (with_reducible exact wk_int hw)
        | exact wk_litE e1
        | exact hby
        | exact wk_litE (decide_eq_true (by simp only [Int.ofNat_eq_natCast, gt_iff_lt, ge_iff_le]; omega))
        | (with_reducible exact trivial)
        | (with_reducible exact rfl)
        | (with_reducible exact Wk.refl _)
        | (with_reducible exact VW.refl _)
        | (with_reducible exact OW.refl _)
        | (with_reducible exact wk_lit _)
        | (with_reducible assumption)
        | exact rfl
        | exact Wk.refl _
        | exact VW.refl _
        | exact OW.refl _
        | ((repeat (first | exact VW.nil | refine VW.cons (Wk.refl _) ?_ | refine VW.cons (Wk.any _) ?_ | refine VW.cons (wk_cap (Nat.le_refl _)) ?_)); done)
    · have hdf : isD x = false := by simpa using hd
      rw [digE_stop hg hdf] at hE
      subst hE
      by_cases hlo : 48 ≤ x.toNat
      · have hhi : ¬ x.toNat ≤ 57 := fun h => hd ((isD_iff x).2 ⟨hlo, h⟩)
        refine ⟨[], hDg x i true false false, [], fun _ _ => noC, fun _ _ => noL, fun F => ?_⟩
        refine cast (congrArg (VAll _) (oDgH_eq s x m i F).symm) ⟨⟨?_, rfl, .inr ⟨rfl, [], rfl, rfl, ⟨Wk.refl _, Wk.refl _, Wk.refl _, trivial⟩, ⟨_, rfl, OW.refl _⟩, ⟨_, rfl, OW.refl _⟩, trivial⟩⟩⟩
        simp only [Cnd.holds, h1, e1, Nat.blt_eq, true_and, and_true]
        and_intros
        all_goals first
          | exact wk_litE e1
          | exact hby
          | exact wk_litE (decide_eq_true (by simp only [Int.ofNat_eq_natCast, gt_iff_lt, ge_iff_le]; omega))
          | exact wk_litE (decide_eq_false (by simp only [Int.ofNat_eq_natCast, gt_iff_lt, ge_iff_le]; omega))
          | (with_reducible exact trivial)
          | (with_reducible exact rfl)
          | (with_reducible exact Wk.refl _)
          | (with_reducible exact VW.refl _)
          | (with_reducible exact OW.refl _)
          | (with_reducible exact wk_lit _)
          | (with_reducible assumption)
          | exact rfl
          | exact Wk.refl _
          | exact VW.refl _
          | exact OW.refl _
          | ((repeat (first | exact VW.nil | refine VW.cons (Wk.refl _) ?_ | refine VW.cons (Wk.any _) ?_ | refine VW.cons (wk_cap (Nat.le_refl _)) ?_)); done)
      · refine ⟨[], hDg x i false false false, [], fun _ _ => noC, fun _ _ => noL, fun F => ?_⟩
        refine cast (congrArg (VAll _) (oDgL_eq s x m i F).symm) ⟨⟨?_, rfl, .inr ⟨rfl, [], rfl, rfl, ⟨Wk.refl _, Wk.refl _, Wk.refl _, trivial⟩, ⟨_, rfl, OW.refl _⟩, ⟨_, rfl, OW.refl _⟩, trivial⟩⟩⟩
        simp only [Cnd.holds, h1, e1, Nat.blt_eq, true_and, and_true]
        and_intros
        all_goals first
          | exact wk_litE e1
          | exact hby
          | exact wk_litE (decide_eq_false (by simp only [Int.ofNat_eq_natCast, gt_iff_lt, ge_iff_le]; omega))
          | (with_reducible exact trivial)
          | (with_reducible exact rfl)
          | (with_reducible exact Wk.refl _)
          | (with_reducible exact VW.refl _)
          | (with_reducible exact OW.refl _)
          | (with_reducible exact wk_lit _)
          | (with_reducible assumption)
          | exact rfl
          | exact Wk.refl _
          | exact VW.refl _
          | exact OW.refl _
          | ((repeat (first | exact VW.nil | refine VW.cons (Wk.refl _) ?_ | refine VW.cons (Wk.any _) ?_ | refine VW.cons (wk_cap (Nat.le_refl _)) ?_)); done)
  · have hie : i = s.size := by omega
    rw [digE_end (show (bts s).length ≤ i by rw [bts_len]; omega)] at hE
    subst hE
    rw [hie]
    refine ⟨[], hintL [(fDig, 2, 3, hv (.lit false))], [], fun _ _ => noC, fun _ _ => noL, fun F => ?_⟩
    refine cast (congrArg (VAll _) (oDgE_eq s m s.size F).symm) ⟨⟨?_, rfl, .inr ⟨rfl, [], rfl, rfl, ⟨Wk.refl _, Wk.refl _, Wk.refl _, trivial⟩, ⟨_, rfl, OW.refl _⟩, ⟨_, rfl, OW.refl _⟩, trivial⟩⟩⟩
    simp only [Cnd.holds, Nat.blt_eq, true_and, and_true]
    and_intros
    all_goals first
      | exact wk_litE ltFC
      | (with_reducible exact trivial)
      | (with_reducible exact rfl)
      | (with_reducible exact Wk.refl _)
      | (with_reducible exact VW.refl _)
      | (with_reducible exact OW.refl _)
      | (with_reducible exact wk_lit _)
      | (with_reducible assumption)
      | exact rfl
      | exact Wk.refl _
      | exact VW.refl _
      | exact OW.refl _
      | ((repeat (first | exact VW.nil | refine VW.cons (Wk.refl _) ?_ | refine VW.cons (Wk.any _) ?_ | refine VW.cons (wk_cap (Nat.le_refl _)) ?_)); done)
theorem oN_cl (K : Nat → Bool) (n : Nat) (s : ByteArray) : ∀ x ∈ oN n s, x.2.cl K := all_cons (⟨trivial, trivial⟩) (all_cons (⟨trivial, trivial⟩) all_nil)
theorem Dig_tri (s : ByteArray) (hs : Few s.size) (m : Nat) (hm : m ≤ s.size) : Tri Tryd.prog default fDig [.ptr 0 0, .ptr 1 0] (oN m s) (bv (decide (m < digE (bts s) m))) (oN (digE (bts s) m) s) := by
  obtain ⟨e, he⟩ : ∃ e, digE (bts s) m = e := ⟨_, rfl⟩
  rw [he]
  have hl : ∀ F, OldOK default F → L1OK Tryd.prog F (loopN fDig 2) (lDg s m e) := fun F hF =>
    mkL_ok hF (fun _ => RO.ret _) (fun _ _ => dg_loop s hs m e hm he) fun _ => by
      simp only [RT.pick]
      exact closedT rfl rfl (all_cons rfl (all_cons rfl (all_cons trivial all_nil))) (oN_cl _ _ _) (all_cons rfl (all_cons rfl (all_cons trivial all_nil))) (oN_cl _ _ _)
  refine tri_run (con := []) (hints := hintL [(fDig, 4, 2, hv (bv (decide (m < e))))]) (lc := [(fDig, 2, loopN fDig 2, lDg s m e)]) [0, 1] rfl (fun F _ => noC) (fun F hF => one_l (hl F hF)) fun F => ?_
  refine cast (congrArg (VAll _) (oDg_eq s m e _ F).symm) ⟨⟨?_, (fit_mk (vs' := [bv (decide (m < e))]) (H' := oN e s) [] rfl rfl (VW.refl _) ⟨⟨_, rfl, OW.refl _⟩, ⟨_, rfl, OW.refl _⟩, trivial⟩).fits rfl⟩⟩
  have hc : decide (Int.ofNat e > Int.ofNat m) = decide (m < e) := by simp only [Int.ofNat_eq_natCast, gt_iff_lt, Int.ofNat_lt]
  simp only [Cnd.holds, Nat.blt_eq, true_and, and_true]
  and_intros
  all_goals first
    | exact wk_bvE hc
    | (with_reducible exact trivial)
    | (with_reducible exact rfl)
    | (with_reducible exact Wk.refl _)
    | (with_reducible exact VW.refl _)
    | (with_reducible exact OW.refl _)
    | (with_reducible exact wk_lit _)
    | (with_reducible assumption)
    | exact rfl
    | exact Wk.refl _
    | exact VW.refl _
    | exact OW.refl _
    | ((repeat (first | exact VW.nil | refine VW.cons (Wk.refl _) ?_ | refine VW.cons (Wk.any _) ?_ | refine VW.cons (wk_cap (Nat.le_refl _)) ?_)); done)
theorem indexByte_has : ∀ (l : List UInt8) (c : UInt8), decide (0 ≤ Lib.indexByte l c) = l.contains c
  | [], c => rfl
  | a :: l, c => by
    have ih := indexByte_has l c
    have hge := Lib.indexByte_ge l c
    unfold Lib.indexByte
    rw [List.contains_cons]
    by_cases h : a = c
    · subst h
      simp
    · have h2 : (c == a) = false := by simpa using fun e : c = a => h e.symm
      rw [h2, Bool.false_or, ← ih]
      rw [if_neg (by simpa using h)]
      by_cases hm : Lib.indexByte l c = -1
      · rw [if_pos (by rw [hm]; rfl), hm]
      · rw [if_neg (by simpa using hm)]
        have : (0 ≤ Lib.indexByte l c + 1) ↔ 0 ≤ Lib.indexByte l c := by omega
        simp only [this]
theorem idx_sgn (k : ByteArray) (x : UInt8) : decide (idxC k ↑x.toNat ≥ Int.ofNat 0) = (bts k).contains x := by
  rw [← indexByte_has]
  unfold idxC bts
  rw [show ((x.toNat : Int).toNat).toUInt8 = x by simp]
  rfl
theorem Sgn_tri (s : ByteArray) (hs : Few s.size) (n : Nat) (hn : n ≤ s.size) (k : ByteArray) : Tri Tryd.prog default fSgn [sv k, .ptr 0 0, .ptr 1 0] (oN n s) (bv (sgn (bts k) (bts s) n)) (oN (sgE (bts k) (bts s) n) s) := by
  by_cases h1 : n < s.size
  · obtain ⟨x, hx⟩ : ∃ x, (bts s).getD n 0 = x := ⟨_, rfl⟩
    have hg := bts_get h1
    rw [hx] at hg
    have hby : Wk (AV.v (.int .u8 (s.data.toList.getD n 0).toNat)) (byv x) := by rw [show s.data.toList.getD n 0 = x from hx]; exact Wk.refl _
    have hw := few_wrap hs h1
    have e1 := ltTC h1
    have hi := idx_sgn k x
    have hsg : sgn (bts k) (bts s) n = (bts k).contains x := by unfold sgn; rw [hg]
    unfold sgE
    rw [hsg]
    cases hc : (bts k).contains x with
    | true =>
      rw [hc] at hi
      refine tri_run (con := [(fIdxB, cIdxB)]) (hints := hSg x n true) (lc := []) [0, 1] rfl (fun F hF => one_c (cIdxB_ok hF)) (fun F _ => noL) fun F => ?_
      refine cast (congrArg (VAll _) (oSgT_eq s k x n F).symm) ⟨⟨?_, (fit_mk (vs' := [bv true]) (H' := oN (n + 1) s) [] rfl rfl (VW.refl _) ⟨⟨_, rfl, OW.refl _⟩, ⟨_, rfl, OW.refl _⟩, trivial⟩).fits rfl⟩⟩
      simp only [Cnd.holds, h1, e1, Nat.blt_eq, true_and, and_true]
      and_intros
      all_goals first
        | (with_reducible exact wk_int hw)
        | exact wk_litE e1
        | exact hby
        | exact wk_litE hi
        | (with_reducible exact trivial)
        | (with_reducible exact rfl)
        | (with_reducible exact Wk.refl _)
        | (with_reducible exact VW.refl _)
        | (with_reducible exact OW.refl _)
        | (with_reducible exact wk_lit _)
        | (with_reducible assumption)
        | exact rfl
        | exact Wk.refl _
        | exact VW.refl _
        | exact OW.refl _
        | ((repeat (first | exact VW.nil | refine VW.cons (Wk.refl _) ?_ | refine VW.cons (Wk.any _) ?_ | refine VW.cons (wk_cap (Nat.le_refl _)) ?_)); done)
    | false =>
      rw [hc] at hi
      refine tri_run (con := [(fIdxB, cIdxB)]) (hints := hSg x n false) (lc := []) [0, 1] rfl (fun F hF => one_c (cIdxB_ok hF)) (fun F _ => noL) fun F => ?_
      refine cast (congrArg (VAll _) (oSgF_eq s k x n F).symm) ⟨⟨?_, (fit_mk (vs' := [bv false]) (H' := oN n s) [] rfl rfl (VW.refl _) ⟨⟨_, rfl, OW.refl _⟩, ⟨_, rfl, OW.refl _⟩, trivial⟩).fits rfl⟩⟩
      simp only [Cnd.holds, h1, e1, Nat.blt_eq, true_and, and_true]
      and_intros
      all_goals first
        | exact wk_litE e1
        | exact hby
        | exact wk_litE hi
        | (with_reducible exact trivial)
        | (with_reducible exact rfl)
        | (with_reducible exact Wk.refl _)
        | (with_reducible exact VW.refl _)
        | (with_reducible exact OW.refl _)
        | (with_reducible exact wk_lit _)
        | (with_reducible assumption)
        | exact rfl
        | exact Wk.refl _
        | exact VW.refl _
        | exact OW.refl _
        | ((repeat (first | exact VW.nil | refine VW.cons (Wk.refl _) ?_ | refine VW.cons (Wk.any _) ?_ | refine VW.cons (wk_cap (Nat.le_refl _)) ?_)); done)
  · have hne : n = s.size := by omega
    have hg : (bts s)[n]? = none := List.getElem?_eq_none (by rw [bts_len]; omega)
    have hsg : sgn (bts k) (bts s) n = false := by unfold sgn; rw [hg]
    unfold sgE
    rw [hsg]
    refine tri_run (con := [(fIdxB, cIdxB)]) (hints := hintL [(fSgn, 1, 3, hv (.lit false))]) (lc := []) [0, 1] rfl (fun F hF => one_c (cIdxB_ok hF)) (fun F _ => noL) fun F => ?_
    refine cast (congrArg (VAll _) (oSgE_eq s k n F).symm) ⟨⟨?_, (fit_mk (vs' := [bv false]) (H' := oN n s) [] rfl rfl (VW.refl _) ⟨⟨_, rfl, OW.refl _⟩, ⟨_, rfl, OW.refl _⟩, trivial⟩).fits rfl⟩⟩
    have e1 : decide (Int.ofNat n < (s.size : Int)) = false := by rw [hne]; exact ltFC
    simp only [Cnd.holds, Nat.blt_eq, true_and, and_true]
    and_intros
    all_goals first
      | exact wk_litE e1
      | (with_reducible exact trivial)
      | (with_reducible exact rfl)
      | (with_reducible exact Wk.refl _)
      | (with_reducible exact VW.refl _)
      | (with_reducible exact OW.refl _)
      | (with_reducible exact wk_lit _)
      | (with_reducible assumption)
      | exact rfl
      | exact Wk.refl _
      | exact VW.refl _
      | exact OW.refl _
      | ((repeat (first | exact VW.nil | refine VW.cons (Wk.refl _) ?_ | refine VW.cons (Wk.any _) ?_ | refine VW.cons (wk_cap (Nat.le_refl _)) ?_)); done)
theorem gNS2_ro (a b : Nat) (k : ByteArray) : RO (gNS2 a b k) := by
  unfold gNS2
  refine RO.read _ _ fun o => ?_
  split
  · split
    · refine RO.read _ _ fun o2 => ?_
      split
      · exact RO.ret _
      · exact RO.fail _
    · exact RO.fail _
  · exact RO.fail _
theorem gDg_ro (args : List AV) : RO (gDg args) := by
  unfold gDg
  split
  · exact gNS2_ro _ _ _
  · exact RO.fail _
theorem gSg_ro (args : List AV) : RO (gSg args) := by
  unfold gSg
  split
  · exact gNS2_ro _ _ _
  · exact RO.fail _
theorem cDg_ok {W : World} (F : HP) (hF : OldOK W F) : C1OK Tryd.prog F fDig cDg :=
  mkC_ok (OldOK.nothing F) (fun p => bv (decide (p.m < digE (bts p.s) p.m))) gDg_ro (fun _ => rfl) (fun p hp => Dig_tri p.s hp.2 p.m hp.1) fun p => ⟨rfl, rfl, ⟨rfl, rfl, trivial⟩, oN_cl _ _ _, ⟨trivial, trivial⟩, oN_cl _ _ _⟩
theorem cSg_ok {W : World} (F : HP) (hF : OldOK W F) : C1OK Tryd.prog F fSgn cSg :=
  mkC_ok (OldOK.nothing F) (fun p => bv (sgn (bts p.k) (bts p.s) p.m)) gSg_ro (fun _ => rfl) (fun p hp => Sgn_tri p.s hp.2 p.m hp.1 p.k) fun p => ⟨rfl, rfl, ⟨trivial, rfl, rfl, trivial⟩, oN_cl _ _ _, ⟨trivial, trivial⟩, oN_cl _ _ _⟩
end Go.Proofs.YtdphpillcaajpaaDoor.Js

/- Json: how long a number is: the function. -/
set_option linter.unusedVariables false
set_option linter.unusedSimpArgs false
set_option maxRecDepth 100000
namespace Go.Proofs.YtdphpillcaajpaaDoor.Js
open Go Go.RowKit Go.Proofs.YtdphpillcaajpaaDoor.Eng Go.Proofs.YtdphpillcaajpaaDoor.Kit
def numV (q : Nat × Bool) : AV := .tuple [iv (Int.ofNat q.1), bv q.2]
theorem num_end {l : List UInt8} {x : Nat} {b : Bool} (h : numR l = (x, b)) : VW [AV.tuple [AV.v (.int .i64 (Int.ofNat x)), AV.v (.bool b)]] [numV (num l)] := by
  rw [← num_raw, h]; exact VW.refl _
theorem s_sg {ks : List UInt8} {s : ByteArray} {n : Nat} (h : n ≤ s.size) : sgE ks (bts s) n ≤ s.size := sgE_len h
theorem s_dg {s : ByteArray} {n : Nat} (h : n ≤ s.size) : digE (bts s) n ≤ s.size := digE_le h
theorem Num_tri {W : World} (s : ByteArray) (hs : Few s.size) : Tri Tryd.prog W fNum [sv s] [] (numV (num (bts s))) [] := by
  refine tri_run (con := [(fDig, cDg), (fSgn, cSg)]) (hints := noHints) (lc := []) [] rfl (fun F hF => con_cons (cDg_ok F hF) (one_c (cSg_ok F hF))) (fun F _ => noL) fun F => ?_
  refine cast (congrArg (VAll _) (oNm_eq W s F).symm) ?_
  repeat' refine VAll.ite (fun hb => ?_) (fun hb => ?_)
  all_goals
    refine ⟨⟨?_, (fit_mk (vs' := [numV (num (bts s))]) (H' := []) [] rfl rfl (num_end (by simp only [numR, num2R, num3R, *, if_true, Bool.false_eq_true, if_false])) trivial).fits rfl⟩⟩
    simp only [Cnd.holds, Nat.blt_eq, true_and, and_true]
    and_intros
    all_goals first
      | (with_reducible exact trivial)
      | (with_reducible exact rfl)
      | (with_reducible exact Wk.refl _)
      | (with_reducible exact VW.refl _)
      | (with_reducible exact OW.refl _)
      | (with_reducible exact hs)
      | exact Nat.zero_le _
      | ((repeat (first | exact Nat.zero_le _ | refine s_sg ?_ | refine s_dg ?_)); done)
end Go.Proofs.YtdphpillcaajpaaDoor.Js

/- Json: whole numbers: runs. -/
set_option linter.unusedVariables false
set_option linter.unusedSimpArgs false
set_option maxRecDepth 100000
namespace Go.Proofs.YtdphpillcaajpaaDoor.Js
open Go Go.RowKit Go.Proofs.YtdphpillcaajpaaDoor.Eng Go.Proofs.YtdphpillcaajpaaDoor.Kit
noncomputable section
abbrev fInt : Nat := 15
abbrev fRInt : Nat := 16
abbrev fRDgs : Nat := 33
abbrev fRDg : Nat := 52
def gS1 : List AV → AP ByteArray := fun args => match args with
  | [.v (.string s)] => .ret s
  | _ => .fail "a text"
def cNum : List AV → Option (AP AV) := mkC gS1 (fun s => Few s.size) (fun _ k => k) (fun s => [sv s]) (fun _ => []) (fun s => .leaf .ret [numV (num (bts s))] [])
def conI0 : ConsL := [(fTPre, cTPre), (fNum, cNum), (fCAny, cCAny)]
def conI (v : Int) (t : ByteArray) : ConsL := [(fTPre, cTPre), (fNum, cNum), (fCAny, cCAny), (fAtoi, cAtoi t v)]
def hI (k ok n l a : Bool) : ClaimT := hintL [(fInt, 3, 2, hv (.lit k)), (fInt, 3, 5, hv (.lit ok)), (fInt, 3, 12, hv (.lit n)), (fInt, 3, 17, hv (.lit l)), (fInt, 3, 21, hv (.lit a))]
theorem oI1_eq (W : World) (r : Rj) (F : HP) : wRun conI0 (hI true false false false false) [] W fInt [aggJ r] [] [] F = VT.leaf (AV.tuple [AV.v (Value.int IntKind.i64 (Int.ofNat 0)), AV.v (Value.bool false)]) [] 1101 (((Cnd.p (true = true)).a ((Cnd.p (AV.v (Value.string r.t) = AV.v (Value.string r.t))).a Cnd.t)).a (((Cnd.p True).a Cnd.t).a (((Cnd.p (true = true)).a ((Cnd.p (AV.v (Value.string r.t) = AV.v (Value.string r.t))).a Cnd.t)).a (((Cnd.p (Few r.t.size)).a ((Cnd.p (VW [AV.v (Value.string r.t)] [AV.v (Value.string r.t)])).a Cnd.t)).a (((Cnd.p (true = true)).a ((Cnd.p (AV.v (Value.int IntKind.i64 r.k) = AV.v (Value.int IntKind.i64 r.k))).a Cnd.t)).a (((Cnd.p (Wk (AV.v (Value.bool (r.k != Int.ofNat 3))) (AV.lit true))).a Cnd.t).a Cnd.t)))))) := by kernel_rfl
theorem oI2_eq (W : World) (r : Rj) (F : HP) : wRun conI0 (hI false true false false false) [] W fInt [aggJ r] [] [] F = VT.leaf (AV.tuple [AV.v (Value.int IntKind.i64 (Int.ofNat 0)), AV.v (Value.bool false)]) [] 1101 (((Cnd.p (true = true)).a ((Cnd.p (AV.v (Value.string r.t) = AV.v (Value.string r.t))).a Cnd.t)).a (((Cnd.p True).a Cnd.t).a (((Cnd.p (true = true)).a ((Cnd.p (AV.v (Value.string r.t) = AV.v (Value.string r.t))).a Cnd.t)).a (((Cnd.p (Few r.t.size)).a ((Cnd.p (VW [AV.v (Value.string r.t)] [AV.v (Value.string r.t)])).a Cnd.t)).a (((Cnd.p (true = true)).a ((Cnd.p (AV.v (Value.int IntKind.i64 r.k) = AV.v (Value.int IntKind.i64 r.k))).a Cnd.t)).a (((Cnd.p (Wk (AV.v (Value.bool (r.k != Int.ofNat 3))) (AV.lit false))).a Cnd.t).a (((Cnd.p (Wk (AV.v (Value.bool !(num (bts r.t)).snd)) (AV.lit true))).a Cnd.t).a Cnd.t))))))) := by kernel_rfl
theorem oI3_eq (W : World) (r : Rj) (F : HP) : wRun conI0 (hI false false true false false) [] W fInt [aggJ r] [] [] F = VT.leaf (AV.tuple [AV.v (Value.int IntKind.i64 (Int.ofNat 0)), AV.v (Value.bool false)]) [] 1101 (((Cnd.p (true = true)).a ((Cnd.p (AV.v (Value.string r.t) = AV.v (Value.string r.t))).a Cnd.t)).a (((Cnd.p True).a Cnd.t).a (((Cnd.p (true = true)).a ((Cnd.p (AV.v (Value.string r.t) = AV.v (Value.string r.t))).a Cnd.t)).a (((Cnd.p (Few r.t.size)).a ((Cnd.p (VW [AV.v (Value.string r.t)] [AV.v (Value.string r.t)])).a Cnd.t)).a (((Cnd.p (true = true)).a ((Cnd.p (AV.v (Value.int IntKind.i64 r.k) = AV.v (Value.int IntKind.i64 r.k))).a Cnd.t)).a (((Cnd.p (Wk (AV.v (Value.bool (r.k != Int.ofNat 3))) (AV.lit false))).a Cnd.t).a (((Cnd.p (Wk (AV.v (Value.bool !(num (bts r.t)).snd)) (AV.lit false))).a Cnd.t).a (((Cnd.p (true = true)).a ((Cnd.p (AV.v (Value.string r.t) = AV.v (Value.string r.t))).a Cnd.t)).a (((Cnd.p (Wk (AV.v (Value.bool (Int.ofNat (num (bts r.t)).fst != ↑r.t.size))) (AV.lit true))).a Cnd.t).a Cnd.t))))))))) := by kernel_rfl
theorem oI4_eq (W : World) (r : Rj) (F : HP) : wRun conI0 (hI false false false true false) [] W fInt [aggJ r] [] [] F = VT.leaf (AV.tuple [AV.v (Value.int IntKind.i64 (Int.ofNat 0)), AV.v (Value.bool false)]) [] 1101 (((Cnd.p (true = true)).a ((Cnd.p (AV.v (Value.string r.t) = AV.v (Value.string r.t))).a Cnd.t)).a (((Cnd.p True).a Cnd.t).a (((Cnd.p (true = true)).a ((Cnd.p (AV.v (Value.string r.t) = AV.v (Value.string r.t))).a Cnd.t)).a (((Cnd.p (Few r.t.size)).a ((Cnd.p (VW [AV.v (Value.string r.t)] [AV.v (Value.string r.t)])).a Cnd.t)).a (((Cnd.p (true = true)).a ((Cnd.p (AV.v (Value.int IntKind.i64 r.k) = AV.v (Value.int IntKind.i64 r.k))).a Cnd.t)).a (((Cnd.p (Wk (AV.v (Value.bool (r.k != Int.ofNat 3))) (AV.lit false))).a Cnd.t).a (((Cnd.p (Wk (AV.v (Value.bool !(num (bts r.t)).snd)) (AV.lit false))).a Cnd.t).a (((Cnd.p (true = true)).a ((Cnd.p (AV.v (Value.string r.t) = AV.v (Value.string r.t))).a Cnd.t)).a (((Cnd.p (Wk (AV.v (Value.bool (Int.ofNat (num (bts r.t)).fst != ↑r.t.size))) (AV.lit false))).a Cnd.t).a (((Cnd.p (Wk (AV.v (Value.bool (decide (↑(preB r.t (ByteArray.mk (Array.mk [45]))).size > Int.ofNat 18)))) (AV.lit true))).a Cnd.t).a Cnd.t)))))))))) := by kernel_rfl
theorem oI5_eq (W : World) (r : Rj) (F : HP) : wRun conI0 (hI false false false false true) [] W fInt [aggJ r] [] [] F = VT.leaf (AV.tuple [AV.v (Value.int IntKind.i64 (Int.ofNat 0)), AV.v (Value.bool false)]) [] 1101 (((Cnd.p (true = true)).a ((Cnd.p (AV.v (Value.string r.t) = AV.v (Value.string r.t))).a Cnd.t)).a (((Cnd.p True).a Cnd.t).a (((Cnd.p (true = true)).a ((Cnd.p (AV.v (Value.string r.t) = AV.v (Value.string r.t))).a Cnd.t)).a (((Cnd.p (Few r.t.size)).a ((Cnd.p (VW [AV.v (Value.string r.t)] [AV.v (Value.string r.t)])).a Cnd.t)).a (((Cnd.p (true = true)).a ((Cnd.p (AV.v (Value.int IntKind.i64 r.k) = AV.v (Value.int IntKind.i64 r.k))).a Cnd.t)).a (((Cnd.p (Wk (AV.v (Value.bool (r.k != Int.ofNat 3))) (AV.lit false))).a Cnd.t).a (((Cnd.p (Wk (AV.v (Value.bool !(num (bts r.t)).snd)) (AV.lit false))).a Cnd.t).a (((Cnd.p (true = true)).a ((Cnd.p (AV.v (Value.string r.t) = AV.v (Value.string r.t))).a Cnd.t)).a (((Cnd.p (Wk (AV.v (Value.bool (Int.ofNat (num (bts r.t)).fst != ↑r.t.size))) (AV.lit false))).a Cnd.t).a (((Cnd.p (Wk (AV.v (Value.bool (decide (↑(preB r.t (ByteArray.mk (Array.mk [45]))).size > Int.ofNat 18)))) (AV.lit false))).a Cnd.t).a (((Cnd.p ((preB r.t (ByteArray.mk (Array.mk [45]))).size < 4294967281 ∧ 3 < 4294967281 ∧ asciiB (preB r.t (ByteArray.mk (Array.mk [45]))) ∧ asciiB (ByteArray.mk (Array.mk [46, 101, 69])))).a ((Cnd.p (Wk (AV.v (Value.bool (anyB (preB r.t (ByteArray.mk (Array.mk [45]))) (ByteArray.mk (Array.mk [46, 101, 69]))))) (AV.lit true))).a Cnd.t)).a Cnd.t))))))))))) := by kernel_rfl
theorem oI6_eq (W : World) (v : Int) (r : Rj) (F : HP) : wRun (conI v r.t) (hI false false false false false) [] W fInt [aggJ r] [] [] F = VT.leaf (AV.tuple [AV.v (Value.int IntKind.i64 v), AV.v (Value.bool true)]) [] 1101 (((Cnd.p (true = true)).a ((Cnd.p (AV.v (Value.string r.t) = AV.v (Value.string r.t))).a Cnd.t)).a (((Cnd.p True).a Cnd.t).a (((Cnd.p (true = true)).a ((Cnd.p (AV.v (Value.string r.t) = AV.v (Value.string r.t))).a Cnd.t)).a (((Cnd.p (Few r.t.size)).a ((Cnd.p (VW [AV.v (Value.string r.t)] [AV.v (Value.string r.t)])).a Cnd.t)).a (((Cnd.p (true = true)).a ((Cnd.p (AV.v (Value.int IntKind.i64 r.k) = AV.v (Value.int IntKind.i64 r.k))).a Cnd.t)).a (((Cnd.p (Wk (AV.v (Value.bool (r.k != Int.ofNat 3))) (AV.lit false))).a Cnd.t).a (((Cnd.p (Wk (AV.v (Value.bool !(num (bts r.t)).snd)) (AV.lit false))).a Cnd.t).a (((Cnd.p (true = true)).a ((Cnd.p (AV.v (Value.string r.t) = AV.v (Value.string r.t))).a Cnd.t)).a (((Cnd.p (Wk (AV.v (Value.bool (Int.ofNat (num (bts r.t)).fst != ↑r.t.size))) (AV.lit false))).a Cnd.t).a (((Cnd.p (Wk (AV.v (Value.bool (decide (↑(preB r.t (ByteArray.mk (Array.mk [45]))).size > Int.ofNat 18)))) (AV.lit false))).a Cnd.t).a (((Cnd.p ((preB r.t (ByteArray.mk (Array.mk [45]))).size < 4294967281 ∧ 3 < 4294967281 ∧ asciiB (preB r.t (ByteArray.mk (Array.mk [45]))) ∧ asciiB (ByteArray.mk (Array.mk [46, 101, 69])))).a ((Cnd.p (Wk (AV.v (Value.bool (anyB (preB r.t (ByteArray.mk (Array.mk [45]))) (ByteArray.mk (Array.mk [46, 101, 69]))))) (AV.lit false))).a Cnd.t)).a (((Cnd.p (true = true)).a ((Cnd.p (AV.v (Value.string r.t) = AV.v (Value.string r.t))).a Cnd.t)).a (((Cnd.p (r.t = r.t)).a Cnd.t).a Cnd.t))))))))))))) := by kernel_rfl
/-! The document's. -/
def hRd (x : UInt8) (a b c : Bool) : ClaimT := hintL [(fRDg, 1, 3, hv (.lit a)), (fRDg, 1, 7, h0v (byv x)), (fRDg, 1, 8, hv (.lit b)), (fRDg, 1, 13, h0v (byv x)), (fRDg, 1, 14, hv (.lit c)), (fRDg, 1, 15, hv (bv c))]
theorem oRdY_eq (s : ByteArray) (x : UInt8) (n : Nat) (F : HP) : wRun [] (hRd x true true true) [] default fRDg [sv s, iv (Int.ofNat n)] [] [] F = VT.leaf (AV.v (Value.bool true)) [] 1100 (((Cnd.p (Wk (AV.v (Value.bool (decide (Int.ofNat n < ↑s.size)))) (AV.lit true))).a Cnd.t).a (((Cnd.p (n < s.size)).a ((Cnd.p (Wk (AV.v (Value.int IntKind.u8 ↑(s.data.toList.getD n 0).toNat)) (AV.v (Value.int IntKind.u8 ↑x.toNat)))).a Cnd.t)).a (((Cnd.p (Wk (AV.v (Value.bool (decide (↑x.toNat ≥ Int.ofNat 48)))) (AV.lit true))).a Cnd.t).a (((Cnd.p (n < s.size)).a ((Cnd.p (Wk (AV.v (Value.int IntKind.u8 ↑(s.data.toList.getD n 0).toNat)) (AV.v (Value.int IntKind.u8 ↑x.toNat)))).a Cnd.t)).a (((Cnd.p (Wk (AV.v (Value.bool (decide (↑x.toNat ≤ Int.ofNat 57)))) (AV.lit true))).a Cnd.t).a (((Cnd.p (Wk (AV.lit true) (AV.v (Value.bool true)))).a Cnd.t).a Cnd.t)))))) := by kernel_rfl
theorem oRdH_eq (s : ByteArray) (x : UInt8) (n : Nat) (F : HP) : wRun [] (hRd x true true false) [] default fRDg [sv s, iv (Int.ofNat n)] [] [] F = VT.leaf (AV.v (Value.bool false)) [] 1100 (((Cnd.p (Wk (AV.v (Value.bool (decide (Int.ofNat n < ↑s.size)))) (AV.lit true))).a Cnd.t).a (((Cnd.p (n < s.size)).a ((Cnd.p (Wk (AV.v (Value.int IntKind.u8 ↑(s.data.toList.getD n 0).toNat)) (AV.v (Value.int IntKind.u8 ↑x.toNat)))).a Cnd.t)).a (((Cnd.p (Wk (AV.v (Value.bool (decide (↑x.toNat ≥ Int.ofNat 48)))) (AV.lit true))).a Cnd.t).a (((Cnd.p (n < s.size)).a ((Cnd.p (Wk (AV.v (Value.int IntKind.u8 ↑(s.data.toList.getD n 0).toNat)) (AV.v (Value.int IntKind.u8 ↑x.toNat)))).a Cnd.t)).a (((Cnd.p (Wk (AV.v (Value.bool (decide (↑x.toNat ≤ Int.ofNat 57)))) (AV.lit false))).a Cnd.t).a (((Cnd.p (Wk (AV.lit false) (AV.v (Value.bool false)))).a Cnd.t).a Cnd.t)))))) := by kernel_rfl
theorem oRdL_eq (s : ByteArray) (x : UInt8) (n : Nat) (F : HP) : wRun [] (hRd x true false false) [] default fRDg [sv s, iv (Int.ofNat n)] [] [] F = VT.leaf (AV.v (Value.bool false)) [] 1100 (((Cnd.p (Wk (AV.v (Value.bool (decide (Int.ofNat n < ↑s.size)))) (AV.lit true))).a Cnd.t).a (((Cnd.p (n < s.size)).a ((Cnd.p (Wk (AV.v (Value.int IntKind.u8 ↑(s.data.toList.getD n 0).toNat)) (AV.v (Value.int IntKind.u8 ↑x.toNat)))).a Cnd.t)).a (((Cnd.p (Wk (AV.v (Value.bool (decide (↑x.toNat ≥ Int.ofNat 48)))) (AV.lit false))).a Cnd.t).a (((Cnd.p (Wk (AV.lit false) (AV.v (Value.bool false)))).a Cnd.t).a Cnd.t)))) := by kernel_rfl
theorem oRdE_eq (s : ByteArray) (n : Nat) (F : HP) : wRun [] (hRd 0 false false false) [] default fRDg [sv s, iv (Int.ofNat n)] [] [] F = VT.leaf (AV.v (Value.bool false)) [] 1100 (((Cnd.p (Wk (AV.v (Value.bool (decide (Int.ofNat n < ↑s.size)))) (AV.lit false))).a Cnd.t).a (((Cnd.p (Wk (AV.lit false) (AV.v (Value.bool false)))).a Cnd.t).a Cnd.t)) := by kernel_rfl
def digAt (l : List UInt8) (n : Nat) : Bool := match l[n]? with
  | some c => isD c
  | none => false
def gSN : List AV → AP (ByteArray × Nat) := fun args => match args with
  | [.v (.string s), .v (.int .i64 z)] => match z with
    | .ofNat n => .ret (s, n)
    | _ => .fail "a place"
  | _ => .fail "a text and a place"
def cRDg : List AV → Option (AP AV) := mkC gSN (fun p => p.2 ≤ p.1.size) (fun _ k => k) (fun p => [sv p.1, iv (Int.ofNat p.2)]) (fun _ => []) (fun p => .leaf .ret [bv (digAt (bts p.1) p.2)] [])
def cRDgs : List AV → Option (AP AV) := mkC gSN (fun p => p.2 ≤ p.1.size ∧ Few p.1.size) (fun _ k => k) (fun p => [sv p.1, iv (Int.ofNat p.2)]) (fun _ => []) (fun p => .leaf .ret [iv (Int.ofNat (digE (bts p.1) p.2))] [])
def aDs (s : ByteArray) (n : Nat) : List (Nat × AV) := [(0, sv s), (1, iv (Int.ofNat n))]
def hDs (b : Bool) (n : Nat) : ClaimT := hintL [(fRDgs, 1, 2, hv (.lit b)), (fRDgs, 2, 1, hv (iv (Int.ofNat (n + 1))))]
theorem oDsN_eq (s : ByteArray) (n : Nat) (F : HP) : wLoop [(fRDg, cRDg)] (hDs true n) [] default fRDgs (loopN fRDgs 1) (tms 0 11 (aDs s n)) [] [] [0, 1] F = VT.leaf (AX.normal, [AV.v (Value.string s), AV.v (Value.int IntKind.i64 (Int.ofNat (n + 1)))], 11) [] 1100 (((Cnd.p (n ≤ s.size)).a ((Cnd.p (VW [AV.v (Value.string s), AV.v (Value.int IntKind.i64 (Int.ofNat n))] [AV.v (Value.string s), AV.v (Value.int IntKind.i64 (Int.ofNat n))])).a ((Cnd.p (Wk (AV.v (Value.bool (digAt (bts s) n))) (AV.lit true))).a Cnd.t))).a (((Cnd.p (Wk (AV.v (Value.int IntKind.i64 (IntKind.i64.wrap (Int.ofNat n + Int.ofNat 1)))) (AV.v (Value.int IntKind.i64 (Int.ofNat (n + 1)))))).a Cnd.t).a Cnd.t)) := by kernel_rfl
theorem oDsE_eq (s : ByteArray) (n : Nat) (F : HP) : wLoop [(fRDg, cRDg)] (hDs false n) [] default fRDgs (loopN fRDgs 1) (tms 0 11 (aDs s n)) [] [] [0, 1] F = VT.leaf (AX.exit 0, [AV.v (Value.string s), AV.v (Value.int IntKind.i64 (Int.ofNat n))], 11) [] 1100 (((Cnd.p (n ≤ s.size)).a ((Cnd.p (VW [AV.v (Value.string s), AV.v (Value.int IntKind.i64 (Int.ofNat n))] [AV.v (Value.string s), AV.v (Value.int IntKind.i64 (Int.ofNat n))])).a ((Cnd.p (Wk (AV.v (Value.bool (digAt (bts s) n))) (AV.lit false))).a Cnd.t))).a Cnd.t) := by kernel_rfl
def lDs (s : ByteArray) (m e : Nat) : List AV → AP (AX × List AV) := mkL (fun _ => .ret ()) (fun _ => True) (fun _ k => k) (fun _ => tms 0 11 (aDs s m)) (fun _ => []) (fun _ => .leaf (.exit 0) (tms 0 11 (aDs s e)) [])
theorem oDs_eq (s : ByteArray) (m e : Nat) (F : HP) : wRun [] noHints [(fRDgs, 1, loopN fRDgs 1, lDs s m e)] default fRDgs [sv s, iv (Int.ofNat m)] [] [] F = VT.leaf (AV.v (Value.int IntKind.i64 (Int.ofNat e))) [] 1100 ((Cnd.p ((fRDgs, 1, loopN fRDgs 1, lDs s m e).snd.snd.fst = (fRDgs, 1, loopN fRDgs 1, lDs s m e).snd.snd.fst)).a ((Cnd.p True).a ((Cnd.p (VW [AV.v (Value.string s), AV.v (Value.int IntKind.i64 (Int.ofNat m)), AV.undef, AV.undef, AV.v (Value.int IntKind.i64 (Int.ofNat 0)), AV.undef, AV.undef, AV.undef, AV.undef, AV.undef, AV.undef] [AV.v (Value.string s), AV.v (Value.int IntKind.i64 (Int.ofNat m)), AV.any, AV.any, AV.any, AV.any, AV.any, AV.any, AV.any, AV.any, AV.any])).a Cnd.t))) := by kernel_rfl
/-! its value -/
def aRI (s : ByteArray) (f : Bool) (acc i : Nat) : List (Nat × AV) := [(4, sv s), (5, bv f), (6, iv (Int.ofNat acc)), (7, iv (Int.ofNat i))]
def hRi (x : UInt8) (a10 d y acc' i : Nat) : ClaimT := hintL [(fRInt, 8, 3, hv (.lit true)), (fRInt, 10, 1, hv (iv (Int.ofNat a10))), (fRInt, 10, 4, h0v (byv x)), (fRInt, 10, 5, hv (.v (.int .u8 (Int.ofNat d)))), (fRInt, 10, 6, hv (iv (Int.ofNat d))), (fRInt, 10, 7, hv (iv (Int.ofNat acc'))), (fRInt, 9, 1, hv (iv (Int.ofNat (i + 1))))]
theorem oRiN_eq (s : ByteArray) (f : Bool) (x : UInt8) (acc a10 d acc' i : Nat) (F : HP) : wLoop [] (hRi x a10 d 0 acc' i) [] default fRInt (loopN fRInt 8) (tms 0 68 (aRI s f acc i)) [] [] [4, 5, 6, 7] F = VT.leaf (AX.normal, [AV.v (Value.string s), AV.v (Value.bool f), AV.v (Value.int IntKind.i64 (Int.ofNat acc')), AV.v (Value.int IntKind.i64 (Int.ofNat (i + 1)))], 68) [] 1100 (((Cnd.p (Wk (AV.v (Value.bool (decide (Int.ofNat i < ↑s.size)))) (AV.lit true))).a Cnd.t).a (((Cnd.p (Wk (AV.v (Value.int IntKind.i64 (IntKind.i64.wrap (Int.ofNat acc * Int.ofNat 10)))) (AV.v (Value.int IntKind.i64 (Int.ofNat a10))))).a Cnd.t).a (((Cnd.p (i < s.size)).a ((Cnd.p (Wk (AV.v (Value.int IntKind.u8 ↑(s.data.toList.getD i 0).toNat)) (AV.v (Value.int IntKind.u8 ↑x.toNat)))).a Cnd.t)).a (((Cnd.p (Wk (AV.v (Value.int IntKind.u8 (IntKind.u8.wrap (↑x.toNat - Int.ofNat 48)))) (AV.v (Value.int IntKind.u8 (Int.ofNat d))))).a Cnd.t).a (((Cnd.p (Wk (AV.v (Value.int IntKind.i64 (IntKind.i64.wrap (Int.ofNat d)))) (AV.v (Value.int IntKind.i64 (Int.ofNat d))))).a Cnd.t).a (((Cnd.p (Wk (AV.v (Value.int IntKind.i64 (IntKind.i64.wrap (Int.ofNat a10 + Int.ofNat d)))) (AV.v (Value.int IntKind.i64 (Int.ofNat acc'))))).a Cnd.t).a (((Cnd.p (Wk (AV.v (Value.int IntKind.i64 (IntKind.i64.wrap (Int.ofNat i + Int.ofNat 1)))) (AV.v (Value.int IntKind.i64 (Int.ofNat (i + 1)))))).a Cnd.t).a Cnd.t))))))) := by kernel_rfl
theorem oRiE_eq (s : ByteArray) (f : Bool) (acc i : Nat) (F : HP) : wLoop [] (hintL [(fRInt, 8, 3, hv (.lit false))]) [] default fRInt (loopN fRInt 8) (tms 0 68 (aRI s f acc i)) [] [] [4, 5, 6, 7] F = VT.leaf (AX.exit 0, [AV.v (Value.string s), AV.v (Value.bool f), AV.v (Value.int IntKind.i64 (Int.ofNat acc)), AV.v (Value.int IntKind.i64 (Int.ofNat i))], 68) [] 1100 (((Cnd.p (Wk (AV.v (Value.bool (decide (Int.ofNat i < ↑s.size)))) (AV.lit false))).a Cnd.t).a Cnd.t) := by kernel_rfl
def gRI : List AV → AP (ByteArray × Bool) := fun tmps => match getL tmps 4 with
  | .v (.string b) => match getL tmps 5 with
    | .v (.bool f) => .ret (b, f)
    | _ => .fail "a sign"
  | _ => .fail "a text"
def lRI : List AV → AP (AX × List AV) := mkL gRI (fun p => p.1.size ≤ 18 ∧ (bts p.1).all isD = true) (fun _ k => k) (fun p => tms 0 68 (aRI p.1 p.2 0 0)) (fun _ => []) (fun p => .leaf (.exit 0) (tms 0 68 [(5, bv p.2), (6, iv (Int.ofNat (dval 0 (bts p.1))))]) [])
def hRI (x y : UInt8) (b : ByteArray) (e z : Bool) : ClaimT := hintL [(fRInt, 2, 2, hv (.lit e)), (fRInt, 2, 5, h0v (byv x)), (fRInt, 2, 6, hv (.lit z)), (fRInt, 3, 1, h0v (sv b)), (fRInt, 4, 19, h0v (byv y))]
def conR : ConsL := [(fRDgs, cRDgs)]
theorem oRiP_eq (W : World) (r : Rj) (x y : UInt8) (F : HP) : wRun conR (hRI x y nil0 true false) [(fRInt, 8, loopN fRInt 8, lRI)] W fRInt [aggJ r] [] [] F = VT.ite (r.k != Int.ofNat 3) (VT.leaf (AV.tuple [AV.v (Value.int IntKind.i64 (Int.ofNat 0)), AV.v (Value.bool false)]) [] 1101 (((Cnd.p (true = true)).a ((Cnd.p (AV.v (Value.string r.t) = AV.v (Value.string r.t))).a Cnd.t)).a (((Cnd.p (Wk (AV.v (Value.bool (decide (↑r.t.size > Int.ofNat 0)))) (AV.lit true))).a Cnd.t).a (((Cnd.p (0 < r.t.size)).a ((Cnd.p (Wk (AV.v (Value.int IntKind.u8 ↑(r.t.data.toList.getD 0 0).toNat)) (AV.v (Value.int IntKind.u8 ↑x.toNat)))).a Cnd.t)).a (((Cnd.p (Wk (AV.v (Value.bool (↑x.toNat == Int.ofNat 45))) (AV.lit false))).a Cnd.t).a (((Cnd.p (true = true)).a ((Cnd.p (AV.v (Value.int IntKind.i64 r.k) = AV.v (Value.int IntKind.i64 r.k))).a Cnd.t)).a Cnd.t)))))) (VT.ite (↑r.t.size == Int.ofNat 0) (VT.leaf (AV.tuple [AV.v (Value.int IntKind.i64 (Int.ofNat 0)), AV.v (Value.bool false)]) [] 1101 (((Cnd.p (true = true)).a ((Cnd.p (AV.v (Value.string r.t) = AV.v (Value.string r.t))).a Cnd.t)).a (((Cnd.p (Wk (AV.v (Value.bool (decide (↑r.t.size > Int.ofNat 0)))) (AV.lit true))).a Cnd.t).a (((Cnd.p (0 < r.t.size)).a ((Cnd.p (Wk (AV.v (Value.int IntKind.u8 ↑(r.t.data.toList.getD 0 0).toNat)) (AV.v (Value.int IntKind.u8 ↑x.toNat)))).a Cnd.t)).a (((Cnd.p (Wk (AV.v (Value.bool (↑x.toNat == Int.ofNat 45))) (AV.lit false))).a Cnd.t).a (((Cnd.p (true = true)).a ((Cnd.p (AV.v (Value.int IntKind.i64 r.k) = AV.v (Value.int IntKind.i64 r.k))).a Cnd.t)).a Cnd.t)))))) (VT.ite (decide (↑r.t.size > Int.ofNat 18)) (VT.leaf (AV.tuple [AV.v (Value.int IntKind.i64 (Int.ofNat 0)), AV.v (Value.bool false)]) [] 1101 (((Cnd.p (true = true)).a ((Cnd.p (AV.v (Value.string r.t) = AV.v (Value.string r.t))).a Cnd.t)).a (((Cnd.p (Wk (AV.v (Value.bool (decide (↑r.t.size > Int.ofNat 0)))) (AV.lit true))).a Cnd.t).a (((Cnd.p (0 < r.t.size)).a ((Cnd.p (Wk (AV.v (Value.int IntKind.u8 ↑(r.t.data.toList.getD 0 0).toNat)) (AV.v (Value.int IntKind.u8 ↑x.toNat)))).a Cnd.t)).a (((Cnd.p (Wk (AV.v (Value.bool (↑x.toNat == Int.ofNat 45))) (AV.lit false))).a Cnd.t).a (((Cnd.p (true = true)).a ((Cnd.p (AV.v (Value.int IntKind.i64 r.k) = AV.v (Value.int IntKind.i64 r.k))).a Cnd.t)).a Cnd.t)))))) (VT.ite (decide (↑r.t.size > Int.ofNat 1)) (VT.ite (↑y.toNat == Int.ofNat 48) (VT.leaf (AV.tuple [AV.v (Value.int IntKind.i64 (Int.ofNat 0)), AV.v (Value.bool false)]) [] 1101 (((Cnd.p (true = true)).a ((Cnd.p (AV.v (Value.string r.t) = AV.v (Value.string r.t))).a Cnd.t)).a (((Cnd.p (Wk (AV.v (Value.bool (decide (↑r.t.size > Int.ofNat 0)))) (AV.lit true))).a Cnd.t).a (((Cnd.p (0 < r.t.size)).a ((Cnd.p (Wk (AV.v (Value.int IntKind.u8 ↑(r.t.data.toList.getD 0 0).toNat)) (AV.v (Value.int IntKind.u8 ↑x.toNat)))).a Cnd.t)).a (((Cnd.p (Wk (AV.v (Value.bool (↑x.toNat == Int.ofNat 45))) (AV.lit false))).a Cnd.t).a (((Cnd.p (true = true)).a ((Cnd.p (AV.v (Value.int IntKind.i64 r.k) = AV.v (Value.int IntKind.i64 r.k))).a Cnd.t)).a (((Cnd.p (0 < r.t.size)).a ((Cnd.p (Wk (AV.v (Value.int IntKind.u8 ↑(r.t.data.toList.getD 0 0).toNat)) (AV.v (Value.int IntKind.u8 ↑y.toNat)))).a Cnd.t)).a Cnd.t))))))) (VT.ite (Int.ofNat (digE (bts r.t) 0) != ↑r.t.size) (VT.leaf (AV.tuple [AV.v (Value.int IntKind.i64 (Int.ofNat 0)), AV.v (Value.bool false)]) [] 1101 (((Cnd.p (true = true)).a ((Cnd.p (AV.v (Value.string r.t) = AV.v (Value.string r.t))).a Cnd.t)).a (((Cnd.p (Wk (AV.v (Value.bool (decide (↑r.t.size > Int.ofNat 0)))) (AV.lit true))).a Cnd.t).a (((Cnd.p (0 < r.t.size)).a ((Cnd.p (Wk (AV.v (Value.int IntKind.u8 ↑(r.t.data.toList.getD 0 0).toNat)) (AV.v (Value.int IntKind.u8 ↑x.toNat)))).a Cnd.t)).a (((Cnd.p (Wk (AV.v (Value.bool (↑x.toNat == Int.ofNat 45))) (AV.lit false))).a Cnd.t).a (((Cnd.p (true = true)).a ((Cnd.p (AV.v (Value.int IntKind.i64 r.k) = AV.v (Value.int IntKind.i64 r.k))).a Cnd.t)).a (((Cnd.p (0 < r.t.size)).a ((Cnd.p (Wk (AV.v (Value.int IntKind.u8 ↑(r.t.data.toList.getD 0 0).toNat)) (AV.v (Value.int IntKind.u8 ↑y.toNat)))).a Cnd.t)).a (((Cnd.p (0 ≤ r.t.size ∧ Few r.t.size)).a ((Cnd.p (VW [AV.v (Value.string r.t), AV.v (Value.int IntKind.i64 (Int.ofNat 0))] [AV.v (Value.string r.t), AV.v (Value.int IntKind.i64 (Int.ofNat 0))])).a Cnd.t)).a Cnd.t)))))))) (VT.ite false (VT.leaf (AV.tuple [AV.v (Value.int IntKind.i64 (IntKind.i64.wrap (Int.ofNat 0 - Int.ofNat (dval 0 (bts r.t))))), AV.v (Value.bool true)]) [] 1101 (((Cnd.p (true = true)).a ((Cnd.p (AV.v (Value.string r.t) = AV.v (Value.string r.t))).a Cnd.t)).a (((Cnd.p (Wk (AV.v (Value.bool (decide (↑r.t.size > Int.ofNat 0)))) (AV.lit true))).a Cnd.t).a (((Cnd.p (0 < r.t.size)).a ((Cnd.p (Wk (AV.v (Value.int IntKind.u8 ↑(r.t.data.toList.getD 0 0).toNat)) (AV.v (Value.int IntKind.u8 ↑x.toNat)))).a Cnd.t)).a (((Cnd.p (Wk (AV.v (Value.bool (↑x.toNat == Int.ofNat 45))) (AV.lit false))).a Cnd.t).a (((Cnd.p (true = true)).a ((Cnd.p (AV.v (Value.int IntKind.i64 r.k) = AV.v (Value.int IntKind.i64 r.k))).a Cnd.t)).a (((Cnd.p (0 < r.t.size)).a ((Cnd.p (Wk (AV.v (Value.int IntKind.u8 ↑(r.t.data.toList.getD 0 0).toNat)) (AV.v (Value.int IntKind.u8 ↑y.toNat)))).a Cnd.t)).a (((Cnd.p (0 ≤ r.t.size ∧ Few r.t.size)).a ((Cnd.p (VW [AV.v (Value.string r.t), AV.v (Value.int IntKind.i64 (Int.ofNat 0))] [AV.v (Value.string r.t), AV.v (Value.int IntKind.i64 (Int.ofNat 0))])).a Cnd.t)).a ((Cnd.p ((fRInt, 8, loopN fRInt 8, lRI).snd.snd.fst = (fRInt, 8, loopN fRInt 8, lRI).snd.snd.fst)).a ((Cnd.p (r.t.size ≤ 18 ∧ (bts r.t).all isD = true)).a ((Cnd.p (VW [AV.agg [AV.v (Value.int IntKind.i64 r.k), AV.v (Value.int IntKind.i64 r.n), AV.v (Value.string r.t), AV.v (Value.slice r.la r.ll r.lc), AV.v (Value.slice r.na r.nl r.nc)], AV.ptr 1100 0, AV.v (Value.int IntKind.i64 (Int.ofNat 0)), AV.v (Value.bool false), AV.v (Value.string r.t), AV.v (Value.bool false), AV.v (Value.int IntKind.i64 (Int.ofNat 0)), AV.v (Value.int IntKind.i64 (Int.ofNat 0)), AV.ptr 1100 2, AV.v (Value.string r.t), AV.v (Value.string r.t), AV.v (Value.int IntKind.i64 ↑r.t.size), AV.lit true, AV.lit true, AV.v (Value.string r.t), AV.v (Value.int IntKind.u8 ↑x.toNat), AV.lit false, AV.lit false, AV.undef, AV.undef, AV.ptr 1100 0, AV.v (Value.int IntKind.i64 r.k), AV.v (Value.bool (r.k != Int.ofNat 3)), AV.lit false, AV.v (Value.string r.t), AV.v (Value.int IntKind.i64 ↑r.t.size), AV.v (Value.bool (↑r.t.size == Int.ofNat 0)), AV.v (Value.bool (↑r.t.size == Int.ofNat 0)), AV.lit false, AV.v (Value.string r.t), AV.v (Value.int IntKind.i64 ↑r.t.size), AV.v (Value.bool (decide (↑r.t.size > Int.ofNat 18))), AV.v (Value.bool (decide (↑r.t.size > Int.ofNat 18))), AV.lit false, AV.v (Value.string r.t), AV.v (Value.int IntKind.i64 ↑r.t.size), AV.v (Value.bool (decide (↑r.t.size > Int.ofNat 1))), AV.lit true, AV.v (Value.string r.t), AV.v (Value.int IntKind.u8 ↑y.toNat), AV.v (Value.bool (↑y.toNat == Int.ofNat 48)), AV.v (Value.bool (↑y.toNat == Int.ofNat 48)), AV.v (Value.bool (↑y.toNat == Int.ofNat 48)), AV.lit false, AV.v (Value.string r.t), AV.v (Value.int IntKind.i64 (Int.ofNat (digE (bts r.t) 0))), AV.v (Value.string r.t), AV.v (Value.int IntKind.i64 ↑r.t.size), AV.v (Value.bool (Int.ofNat (digE (bts r.t) 0) != ↑r.t.size)), AV.lit false, AV.undef, AV.undef, AV.undef, AV.undef, AV.undef, AV.undef, AV.undef, AV.undef, AV.undef, AV.undef, AV.undef, AV.undef, AV.undef, AV.undef, AV.undef, AV.undef, AV.undef, AV.undef] [AV.any, AV.any, AV.any, AV.any, AV.v (Value.string r.t), AV.v (Value.bool false), AV.v (Value.int IntKind.i64 (Int.ofNat 0)), AV.v (Value.int IntKind.i64 (Int.ofNat 0)), AV.any, AV.any, AV.any, AV.any, AV.any, AV.any, AV.any, AV.any, AV.any, AV.any, AV.any, AV.any, AV.any, AV.any, AV.any, AV.any, AV.any, AV.any, AV.any, AV.any, AV.any, AV.any, AV.any, AV.any, AV.any, AV.any, AV.any, AV.any, AV.any, AV.any, AV.any, AV.any, AV.any, AV.any, AV.any, AV.any, AV.any, AV.any, AV.any, AV.any, AV.any, AV.any, AV.any, AV.any, AV.any, AV.any, AV.any, AV.any, AV.any, AV.any, AV.any, AV.any, AV.any, AV.any, AV.any, AV.any, AV.any, AV.any, AV.any, AV.any])).a Cnd.t))))))))))) (VT.leaf (AV.tuple [AV.v (Value.int IntKind.i64 (Int.ofNat (dval 0 (bts r.t)))), AV.v (Value.bool true)]) [] 1101 (((Cnd.p (true = true)).a ((Cnd.p (AV.v (Value.string r.t) = AV.v (Value.string r.t))).a Cnd.t)).a (((Cnd.p (Wk (AV.v (Value.bool (decide (↑r.t.size > Int.ofNat 0)))) (AV.lit true))).a Cnd.t).a (((Cnd.p (0 < r.t.size)).a ((Cnd.p (Wk (AV.v (Value.int IntKind.u8 ↑(r.t.data.toList.getD 0 0).toNat)) (AV.v (Value.int IntKind.u8 ↑x.toNat)))).a Cnd.t)).a (((Cnd.p (Wk (AV.v (Value.bool (↑x.toNat == Int.ofNat 45))) (AV.lit false))).a Cnd.t).a (((Cnd.p (true = true)).a ((Cnd.p (AV.v (Value.int IntKind.i64 r.k) = AV.v (Value.int IntKind.i64 r.k))).a Cnd.t)).a (((Cnd.p (0 < r.t.size)).a ((Cnd.p (Wk (AV.v (Value.int IntKind.u8 ↑(r.t.data.toList.getD 0 0).toNat)) (AV.v (Value.int IntKind.u8 ↑y.toNat)))).a Cnd.t)).a (((Cnd.p (0 ≤ r.t.size ∧ Few r.t.size)).a ((Cnd.p (VW [AV.v (Value.string r.t), AV.v (Value.int IntKind.i64 (Int.ofNat 0))] [AV.v (Value.string r.t), AV.v (Value.int IntKind.i64 (Int.ofNat 0))])).a Cnd.t)).a ((Cnd.p ((fRInt, 8, loopN fRInt 8, lRI).snd.snd.fst = (fRInt, 8, loopN fRInt 8, lRI).snd.snd.fst)).a ((Cnd.p (r.t.size ≤ 18 ∧ (bts r.t).all isD = true)).a ((Cnd.p (VW [AV.agg [AV.v (Value.int IntKind.i64 r.k), AV.v (Value.int IntKind.i64 r.n), AV.v (Value.string r.t), AV.v (Value.slice r.la r.ll r.lc), AV.v (Value.slice r.na r.nl r.nc)], AV.ptr 1100 0, AV.v (Value.int IntKind.i64 (Int.ofNat 0)), AV.v (Value.bool false), AV.v (Value.string r.t), AV.v (Value.bool false), AV.v (Value.int IntKind.i64 (Int.ofNat 0)), AV.v (Value.int IntKind.i64 (Int.ofNat 0)), AV.ptr 1100 2, AV.v (Value.string r.t), AV.v (Value.string r.t), AV.v (Value.int IntKind.i64 ↑r.t.size), AV.lit true, AV.lit true, AV.v (Value.string r.t), AV.v (Value.int IntKind.u8 ↑x.toNat), AV.lit false, AV.lit false, AV.undef, AV.undef, AV.ptr 1100 0, AV.v (Value.int IntKind.i64 r.k), AV.v (Value.bool (r.k != Int.ofNat 3)), AV.lit false, AV.v (Value.string r.t), AV.v (Value.int IntKind.i64 ↑r.t.size), AV.v (Value.bool (↑r.t.size == Int.ofNat 0)), AV.v (Value.bool (↑r.t.size == Int.ofNat 0)), AV.lit false, AV.v (Value.string r.t), AV.v (Value.int IntKind.i64 ↑r.t.size), AV.v (Value.bool (decide (↑r.t.size > Int.ofNat 18))), AV.v (Value.bool (decide (↑r.t.size > Int.ofNat 18))), AV.lit false, AV.v (Value.string r.t), AV.v (Value.int IntKind.i64 ↑r.t.size), AV.v (Value.bool (decide (↑r.t.size > Int.ofNat 1))), AV.lit true, AV.v (Value.string r.t), AV.v (Value.int IntKind.u8 ↑y.toNat), AV.v (Value.bool (↑y.toNat == Int.ofNat 48)), AV.v (Value.bool (↑y.toNat == Int.ofNat 48)), AV.v (Value.bool (↑y.toNat == Int.ofNat 48)), AV.lit false, AV.v (Value.string r.t), AV.v (Value.int IntKind.i64 (Int.ofNat (digE (bts r.t) 0))), AV.v (Value.string r.t), AV.v (Value.int IntKind.i64 ↑r.t.size), AV.v (Value.bool (Int.ofNat (digE (bts r.t) 0) != ↑r.t.size)), AV.lit false, AV.undef, AV.undef, AV.undef, AV.undef, AV.undef, AV.undef, AV.undef, AV.undef, AV.undef, AV.undef, AV.undef, AV.undef, AV.undef, AV.undef, AV.undef, AV.undef, AV.undef, AV.undef] [AV.any, AV.any, AV.any, AV.any, AV.v (Value.string r.t), AV.v (Value.bool false), AV.v (Value.int IntKind.i64 (Int.ofNat 0)), AV.v (Value.int IntKind.i64 (Int.ofNat 0)), AV.any, AV.any, AV.any, AV.any, AV.any, AV.any, AV.any, AV.any, AV.any, AV.any, AV.any, AV.any, AV.any, AV.any, AV.any, AV.any, AV.any, AV.any, AV.any, AV.any, AV.any, AV.any, AV.any, AV.any, AV.any, AV.any, AV.any, AV.any, AV.any, AV.any, AV.any, AV.any, AV.any, AV.any, AV.any, AV.any, AV.any, AV.any, AV.any, AV.any, AV.any, AV.any, AV.any, AV.any, AV.any, AV.any, AV.any, AV.any, AV.any, AV.any, AV.any, AV.any, AV.any, AV.any, AV.any, AV.any, AV.any, AV.any, AV.any, AV.any])).a Cnd.t)))))))))))))) (VT.ite (Int.ofNat (digE (bts r.t) 0) != ↑r.t.size) (VT.leaf (AV.tuple [AV.v (Value.int IntKind.i64 (Int.ofNat 0)), AV.v (Value.bool false)]) [] 1101 (((Cnd.p (true = true)).a ((Cnd.p (AV.v (Value.string r.t) = AV.v (Value.string r.t))).a Cnd.t)).a (((Cnd.p (Wk (AV.v (Value.bool (decide (↑r.t.size > Int.ofNat 0)))) (AV.lit true))).a Cnd.t).a (((Cnd.p (0 < r.t.size)).a ((Cnd.p (Wk (AV.v (Value.int IntKind.u8 ↑(r.t.data.toList.getD 0 0).toNat)) (AV.v (Value.int IntKind.u8 ↑x.toNat)))).a Cnd.t)).a (((Cnd.p (Wk (AV.v (Value.bool (↑x.toNat == Int.ofNat 45))) (AV.lit false))).a Cnd.t).a (((Cnd.p (true = true)).a ((Cnd.p (AV.v (Value.int IntKind.i64 r.k) = AV.v (Value.int IntKind.i64 r.k))).a Cnd.t)).a (((Cnd.p (0 ≤ r.t.size ∧ Few r.t.size)).a ((Cnd.p (VW [AV.v (Value.string r.t), AV.v (Value.int IntKind.i64 (Int.ofNat 0))] [AV.v (Value.string r.t), AV.v (Value.int IntKind.i64 (Int.ofNat 0))])).a Cnd.t)).a Cnd.t))))))) (VT.ite false (VT.leaf (AV.tuple [AV.v (Value.int IntKind.i64 (IntKind.i64.wrap (Int.ofNat 0 - Int.ofNat (dval 0 (bts r.t))))), AV.v (Value.bool true)]) [] 1101 (((Cnd.p (true = true)).a ((Cnd.p (AV.v (Value.string r.t) = AV.v (Value.string r.t))).a Cnd.t)).a (((Cnd.p (Wk (AV.v (Value.bool (decide (↑r.t.size > Int.ofNat 0)))) (AV.lit true))).a Cnd.t).a (((Cnd.p (0 < r.t.size)).a ((Cnd.p (Wk (AV.v (Value.int IntKind.u8 ↑(r.t.data.toList.getD 0 0).toNat)) (AV.v (Value.int IntKind.u8 ↑x.toNat)))).a Cnd.t)).a (((Cnd.p (Wk (AV.v (Value.bool (↑x.toNat == Int.ofNat 45))) (AV.lit false))).a Cnd.t).a (((Cnd.p (true = true)).a ((Cnd.p (AV.v (Value.int IntKind.i64 r.k) = AV.v (Value.int IntKind.i64 r.k))).a Cnd.t)).a (((Cnd.p (0 ≤ r.t.size ∧ Few r.t.size)).a ((Cnd.p (VW [AV.v (Value.string r.t), AV.v (Value.int IntKind.i64 (Int.ofNat 0))] [AV.v (Value.string r.t), AV.v (Value.int IntKind.i64 (Int.ofNat 0))])).a Cnd.t)).a ((Cnd.p ((fRInt, 8, loopN fRInt 8, lRI).snd.snd.fst = (fRInt, 8, loopN fRInt 8, lRI).snd.snd.fst)).a ((Cnd.p (r.t.size ≤ 18 ∧ (bts r.t).all isD = true)).a ((Cnd.p (VW [AV.agg [AV.v (Value.int IntKind.i64 r.k), AV.v (Value.int IntKind.i64 r.n), AV.v (Value.string r.t), AV.v (Value.slice r.la r.ll r.lc), AV.v (Value.slice r.na r.nl r.nc)], AV.ptr 1100 0, AV.v (Value.int IntKind.i64 (Int.ofNat 0)), AV.v (Value.bool false), AV.v (Value.string r.t), AV.v (Value.bool false), AV.v (Value.int IntKind.i64 (Int.ofNat 0)), AV.v (Value.int IntKind.i64 (Int.ofNat 0)), AV.ptr 1100 2, AV.v (Value.string r.t), AV.v (Value.string r.t), AV.v (Value.int IntKind.i64 ↑r.t.size), AV.lit true, AV.lit true, AV.v (Value.string r.t), AV.v (Value.int IntKind.u8 ↑x.toNat), AV.lit false, AV.lit false, AV.undef, AV.undef, AV.ptr 1100 0, AV.v (Value.int IntKind.i64 r.k), AV.v (Value.bool (r.k != Int.ofNat 3)), AV.lit false, AV.v (Value.string r.t), AV.v (Value.int IntKind.i64 ↑r.t.size), AV.v (Value.bool (↑r.t.size == Int.ofNat 0)), AV.v (Value.bool (↑r.t.size == Int.ofNat 0)), AV.lit false, AV.v (Value.string r.t), AV.v (Value.int IntKind.i64 ↑r.t.size), AV.v (Value.bool (decide (↑r.t.size > Int.ofNat 18))), AV.v (Value.bool (decide (↑r.t.size > Int.ofNat 18))), AV.lit false, AV.v (Value.string r.t), AV.v (Value.int IntKind.i64 ↑r.t.size), AV.v (Value.bool (decide (↑r.t.size > Int.ofNat 1))), AV.lit false, AV.undef, AV.undef, AV.undef, AV.lit false, AV.lit false, AV.lit false, AV.v (Value.string r.t), AV.v (Value.int IntKind.i64 (Int.ofNat (digE (bts r.t) 0))), AV.v (Value.string r.t), AV.v (Value.int IntKind.i64 ↑r.t.size), AV.v (Value.bool (Int.ofNat (digE (bts r.t) 0) != ↑r.t.size)), AV.lit false, AV.undef, AV.undef, AV.undef, AV.undef, AV.undef, AV.undef, AV.undef, AV.undef, AV.undef, AV.undef, AV.undef, AV.undef, AV.undef, AV.undef, AV.undef, AV.undef, AV.undef, AV.undef] [AV.any, AV.any, AV.any, AV.any, AV.v (Value.string r.t), AV.v (Value.bool false), AV.v (Value.int IntKind.i64 (Int.ofNat 0)), AV.v (Value.int IntKind.i64 (Int.ofNat 0)), AV.any, AV.any, AV.any, AV.any, AV.any, AV.any, AV.any, AV.any, AV.any, AV.any, AV.any, AV.any, AV.any, AV.any, AV.any, AV.any, AV.any, AV.any, AV.any, AV.any, AV.any, AV.any, AV.any, AV.any, AV.any, AV.any, AV.any, AV.any, AV.any, AV.any, AV.any, AV.any, AV.any, AV.any, AV.any, AV.any, AV.any, AV.any, AV.any, AV.any, AV.any, AV.any, AV.any, AV.any, AV.any, AV.any, AV.any, AV.any, AV.any, AV.any, AV.any, AV.any, AV.any, AV.any, AV.any, AV.any, AV.any, AV.any, AV.any, AV.any])).a Cnd.t)))))))))) (VT.leaf (AV.tuple [AV.v (Value.int IntKind.i64 (Int.ofNat (dval 0 (bts r.t)))), AV.v (Value.bool true)]) [] 1101 (((Cnd.p (true = true)).a ((Cnd.p (AV.v (Value.string r.t) = AV.v (Value.string r.t))).a Cnd.t)).a (((Cnd.p (Wk (AV.v (Value.bool (decide (↑r.t.size > Int.ofNat 0)))) (AV.lit true))).a Cnd.t).a (((Cnd.p (0 < r.t.size)).a ((Cnd.p (Wk (AV.v (Value.int IntKind.u8 ↑(r.t.data.toList.getD 0 0).toNat)) (AV.v (Value.int IntKind.u8 ↑x.toNat)))).a Cnd.t)).a (((Cnd.p (Wk (AV.v (Value.bool (↑x.toNat == Int.ofNat 45))) (AV.lit false))).a Cnd.t).a (((Cnd.p (true = true)).a ((Cnd.p (AV.v (Value.int IntKind.i64 r.k) = AV.v (Value.int IntKind.i64 r.k))).a Cnd.t)).a (((Cnd.p (0 ≤ r.t.size ∧ Few r.t.size)).a ((Cnd.p (VW [AV.v (Value.string r.t), AV.v (Value.int IntKind.i64 (Int.ofNat 0))] [AV.v (Value.string r.t), AV.v (Value.int IntKind.i64 (Int.ofNat 0))])).a Cnd.t)).a ((Cnd.p ((fRInt, 8, loopN fRInt 8, lRI).snd.snd.fst = (fRInt, 8, loopN fRInt 8, lRI).snd.snd.fst)).a ((Cnd.p (r.t.size ≤ 18 ∧ (bts r.t).all isD = true)).a ((Cnd.p (VW [AV.agg [AV.v (Value.int IntKind.i64 r.k), AV.v (Value.int IntKind.i64 r.n), AV.v (Value.string r.t), AV.v (Value.slice r.la r.ll r.lc), AV.v (Value.slice r.na r.nl r.nc)], AV.ptr 1100 0, AV.v (Value.int IntKind.i64 (Int.ofNat 0)), AV.v (Value.bool false), AV.v (Value.string r.t), AV.v (Value.bool false), AV.v (Value.int IntKind.i64 (Int.ofNat 0)), AV.v (Value.int IntKind.i64 (Int.ofNat 0)), AV.ptr 1100 2, AV.v (Value.string r.t), AV.v (Value.string r.t), AV.v (Value.int IntKind.i64 ↑r.t.size), AV.lit true, AV.lit true, AV.v (Value.string r.t), AV.v (Value.int IntKind.u8 ↑x.toNat), AV.lit false, AV.lit false, AV.undef, AV.undef, AV.ptr 1100 0, AV.v (Value.int IntKind.i64 r.k), AV.v (Value.bool (r.k != Int.ofNat 3)), AV.lit false, AV.v (Value.string r.t), AV.v (Value.int IntKind.i64 ↑r.t.size), AV.v (Value.bool (↑r.t.size == Int.ofNat 0)), AV.v (Value.bool (↑r.t.size == Int.ofNat 0)), AV.lit false, AV.v (Value.string r.t), AV.v (Value.int IntKind.i64 ↑r.t.size), AV.v (Value.bool (decide (↑r.t.size > Int.ofNat 18))), AV.v (Value.bool (decide (↑r.t.size > Int.ofNat 18))), AV.lit false, AV.v (Value.string r.t), AV.v (Value.int IntKind.i64 ↑r.t.size), AV.v (Value.bool (decide (↑r.t.size > Int.ofNat 1))), AV.lit false, AV.undef, AV.undef, AV.undef, AV.lit false, AV.lit false, AV.lit false, AV.v (Value.string r.t), AV.v (Value.int IntKind.i64 (Int.ofNat (digE (bts r.t) 0))), AV.v (Value.string r.t), AV.v (Value.int IntKind.i64 ↑r.t.size), AV.v (Value.bool (Int.ofNat (digE (bts r.t) 0) != ↑r.t.size)), AV.lit false, AV.undef, AV.undef, AV.undef, AV.undef, AV.undef, AV.undef, AV.undef, AV.undef, AV.undef, AV.undef, AV.undef, AV.undef, AV.undef, AV.undef, AV.undef, AV.undef, AV.undef, AV.undef] [AV.any, AV.any, AV.any, AV.any, AV.v (Value.string r.t), AV.v (Value.bool false), AV.v (Value.int IntKind.i64 (Int.ofNat 0)), AV.v (Value.int IntKind.i64 (Int.ofNat 0)), AV.any, AV.any, AV.any, AV.any, AV.any, AV.any, AV.any, AV.any, AV.any, AV.any, AV.any, AV.any, AV.any, AV.any, AV.any, AV.any, AV.any, AV.any, AV.any, AV.any, AV.any, AV.any, AV.any, AV.any, AV.any, AV.any, AV.any, AV.any, AV.any, AV.any, AV.any, AV.any, AV.any, AV.any, AV.any, AV.any, AV.any, AV.any, AV.any, AV.any, AV.any, AV.any, AV.any, AV.any, AV.any, AV.any, AV.any, AV.any, AV.any, AV.any, AV.any, AV.any, AV.any, AV.any, AV.any, AV.any, AV.any, AV.any, AV.any, AV.any])).a Cnd.t))))))))))))))) := by kernel_rfl
theorem oRiM_eq (W : World) (r : Rj) (b : ByteArray) (x y : UInt8) (F : HP) : wRun conR (hRI x y b true true) [(fRInt, 8, loopN fRInt 8, lRI)] W fRInt [aggJ r] [] [] F = VT.ite (r.k != Int.ofNat 3) (VT.leaf (AV.tuple [AV.v (Value.int IntKind.i64 (Int.ofNat 0)), AV.v (Value.bool false)]) [] 1101 (((Cnd.p (true = true)).a ((Cnd.p (AV.v (Value.string r.t) = AV.v (Value.string r.t))).a Cnd.t)).a (((Cnd.p (Wk (AV.v (Value.bool (decide (↑r.t.size > Int.ofNat 0)))) (AV.lit true))).a Cnd.t).a (((Cnd.p (0 < r.t.size)).a ((Cnd.p (Wk (AV.v (Value.int IntKind.u8 ↑(r.t.data.toList.getD 0 0).toNat)) (AV.v (Value.int IntKind.u8 ↑x.toNat)))).a Cnd.t)).a (((Cnd.p (Wk (AV.v (Value.bool (↑x.toNat == Int.ofNat 45))) (AV.lit true))).a Cnd.t).a (((Cnd.p (1 ≤ r.t.size)).a ((Cnd.p (r.t.size ≤ r.t.size)).a ((Cnd.p (Wk (AV.v (Value.string (r.t.extract 1 r.t.size))) (AV.v (Value.string b)))).a Cnd.t))).a (((Cnd.p (true = true)).a ((Cnd.p (AV.v (Value.int IntKind.i64 r.k) = AV.v (Value.int IntKind.i64 r.k))).a Cnd.t)).a Cnd.t))))))) (VT.ite (↑b.size == Int.ofNat 0) (VT.leaf (AV.tuple [AV.v (Value.int IntKind.i64 (Int.ofNat 0)), AV.v (Value.bool false)]) [] 1101 (((Cnd.p (true = true)).a ((Cnd.p (AV.v (Value.string r.t) = AV.v (Value.string r.t))).a Cnd.t)).a (((Cnd.p (Wk (AV.v (Value.bool (decide (↑r.t.size > Int.ofNat 0)))) (AV.lit true))).a Cnd.t).a (((Cnd.p (0 < r.t.size)).a ((Cnd.p (Wk (AV.v (Value.int IntKind.u8 ↑(r.t.data.toList.getD 0 0).toNat)) (AV.v (Value.int IntKind.u8 ↑x.toNat)))).a Cnd.t)).a (((Cnd.p (Wk (AV.v (Value.bool (↑x.toNat == Int.ofNat 45))) (AV.lit true))).a Cnd.t).a (((Cnd.p (1 ≤ r.t.size)).a ((Cnd.p (r.t.size ≤ r.t.size)).a ((Cnd.p (Wk (AV.v (Value.string (r.t.extract 1 r.t.size))) (AV.v (Value.string b)))).a Cnd.t))).a (((Cnd.p (true = true)).a ((Cnd.p (AV.v (Value.int IntKind.i64 r.k) = AV.v (Value.int IntKind.i64 r.k))).a Cnd.t)).a Cnd.t))))))) (VT.ite (decide (↑b.size > Int.ofNat 18)) (VT.leaf (AV.tuple [AV.v (Value.int IntKind.i64 (Int.ofNat 0)), AV.v (Value.bool false)]) [] 1101 (((Cnd.p (true = true)).a ((Cnd.p (AV.v (Value.string r.t) = AV.v (Value.string r.t))).a Cnd.t)).a (((Cnd.p (Wk (AV.v (Value.bool (decide (↑r.t.size > Int.ofNat 0)))) (AV.lit true))).a Cnd.t).a (((Cnd.p (0 < r.t.size)).a ((Cnd.p (Wk (AV.v (Value.int IntKind.u8 ↑(r.t.data.toList.getD 0 0).toNat)) (AV.v (Value.int IntKind.u8 ↑x.toNat)))).a Cnd.t)).a (((Cnd.p (Wk (AV.v (Value.bool (↑x.toNat == Int.ofNat 45))) (AV.lit true))).a Cnd.t).a (((Cnd.p (1 ≤ r.t.size)).a ((Cnd.p (r.t.size ≤ r.t.size)).a ((Cnd.p (Wk (AV.v (Value.string (r.t.extract 1 r.t.size))) (AV.v (Value.string b)))).a Cnd.t))).a (((Cnd.p (true = true)).a ((Cnd.p (AV.v (Value.int IntKind.i64 r.k) = AV.v (Value.int IntKind.i64 r.k))).a Cnd.t)).a Cnd.t))))))) (VT.ite (decide (↑b.size > Int.ofNat 1)) (VT.ite (↑y.toNat == Int.ofNat 48) (VT.leaf (AV.tuple [AV.v (Value.int IntKind.i64 (Int.ofNat 0)), AV.v (Value.bool false)]) [] 1101 (((Cnd.p (true = true)).a ((Cnd.p (AV.v (Value.string r.t) = AV.v (Value.string r.t))).a Cnd.t)).a (((Cnd.p (Wk (AV.v (Value.bool (decide (↑r.t.size > Int.ofNat 0)))) (AV.lit true))).a Cnd.t).a (((Cnd.p (0 < r.t.size)).a ((Cnd.p (Wk (AV.v (Value.int IntKind.u8 ↑(r.t.data.toList.getD 0 0).toNat)) (AV.v (Value.int IntKind.u8 ↑x.toNat)))).a Cnd.t)).a (((Cnd.p (Wk (AV.v (Value.bool (↑x.toNat == Int.ofNat 45))) (AV.lit true))).a Cnd.t).a (((Cnd.p (1 ≤ r.t.size)).a ((Cnd.p (r.t.size ≤ r.t.size)).a ((Cnd.p (Wk (AV.v (Value.string (r.t.extract 1 r.t.size))) (AV.v (Value.string b)))).a Cnd.t))).a (((Cnd.p (true = true)).a ((Cnd.p (AV.v (Value.int IntKind.i64 r.k) = AV.v (Value.int IntKind.i64 r.k))).a Cnd.t)).a (((Cnd.p (0 < b.size)).a ((Cnd.p (Wk (AV.v (Value.int IntKind.u8 ↑(b.data.toList.getD 0 0).toNat)) (AV.v (Value.int IntKind.u8 ↑y.toNat)))).a Cnd.t)).a Cnd.t)))))))) (VT.ite (Int.ofNat (digE (bts b) 0) != ↑b.size) (VT.leaf (AV.tuple [AV.v (Value.int IntKind.i64 (Int.ofNat 0)), AV.v (Value.bool false)]) [] 1101 (((Cnd.p (true = true)).a ((Cnd.p (AV.v (Value.string r.t) = AV.v (Value.string r.t))).a Cnd.t)).a (((Cnd.p (Wk (AV.v (Value.bool (decide (↑r.t.size > Int.ofNat 0)))) (AV.lit true))).a Cnd.t).a (((Cnd.p (0 < r.t.size)).a ((Cnd.p (Wk (AV.v (Value.int IntKind.u8 ↑(r.t.data.toList.getD 0 0).toNat)) (AV.v (Value.int IntKind.u8 ↑x.toNat)))).a Cnd.t)).a (((Cnd.p (Wk (AV.v (Value.bool (↑x.toNat == Int.ofNat 45))) (AV.lit true))).a Cnd.t).a (((Cnd.p (1 ≤ r.t.size)).a ((Cnd.p (r.t.size ≤ r.t.size)).a ((Cnd.p (Wk (AV.v (Value.string (r.t.extract 1 r.t.size))) (AV.v (Value.string b)))).a Cnd.t))).a (((Cnd.p (true = true)).a ((Cnd.p (AV.v (Value.int IntKind.i64 r.k) = AV.v (Value.int IntKind.i64 r.k))).a Cnd.t)).a (((Cnd.p (0 < b.size)).a ((Cnd.p (Wk (AV.v (Value.int IntKind.u8 ↑(b.data.toList.getD 0 0).toNat)) (AV.v (Value.int IntKind.u8 ↑y.toNat)))).a Cnd.t)).a (((Cnd.p (0 ≤ b.size ∧ Few b.size)).a ((Cnd.p (VW [AV.v (Value.string b), AV.v (Value.int IntKind.i64 (Int.ofNat 0))] [AV.v (Value.string b), AV.v (Value.int IntKind.i64 (Int.ofNat 0))])).a Cnd.t)).a Cnd.t))))))))) (VT.ite true (VT.leaf (AV.tuple [AV.v (Value.int IntKind.i64 (IntKind.i64.wrap (Int.ofNat 0 - Int.ofNat (dval 0 (bts b))))), AV.v (Value.bool true)]) [] 1101 (((Cnd.p (true = true)).a ((Cnd.p (AV.v (Value.string r.t) = AV.v (Value.string r.t))).a Cnd.t)).a (((Cnd.p (Wk (AV.v (Value.bool (decide (↑r.t.size > Int.ofNat 0)))) (AV.lit true))).a Cnd.t).a (((Cnd.p (0 < r.t.size)).a ((Cnd.p (Wk (AV.v (Value.int IntKind.u8 ↑(r.t.data.toList.getD 0 0).toNat)) (AV.v (Value.int IntKind.u8 ↑x.toNat)))).a Cnd.t)).a (((Cnd.p (Wk (AV.v (Value.bool (↑x.toNat == Int.ofNat 45))) (AV.lit true))).a Cnd.t).a (((Cnd.p (1 ≤ r.t.size)).a ((Cnd.p (r.t.size ≤ r.t.size)).a ((Cnd.p (Wk (AV.v (Value.string (r.t.extract 1 r.t.size))) (AV.v (Value.string b)))).a Cnd.t))).a (((Cnd.p (true = true)).a ((Cnd.p (AV.v (Value.int IntKind.i64 r.k) = AV.v (Value.int IntKind.i64 r.k))).a Cnd.t)).a (((Cnd.p (0 < b.size)).a ((Cnd.p (Wk (AV.v (Value.int IntKind.u8 ↑(b.data.toList.getD 0 0).toNat)) (AV.v (Value.int IntKind.u8 ↑y.toNat)))).a Cnd.t)).a (((Cnd.p (0 ≤ b.size ∧ Few b.size)).a ((Cnd.p (VW [AV.v (Value.string b), AV.v (Value.int IntKind.i64 (Int.ofNat 0))] [AV.v (Value.string b), AV.v (Value.int IntKind.i64 (Int.ofNat 0))])).a Cnd.t)).a ((Cnd.p ((fRInt, 8, loopN fRInt 8, lRI).snd.snd.fst = (fRInt, 8, loopN fRInt 8, lRI).snd.snd.fst)).a ((Cnd.p (b.size ≤ 18 ∧ (bts b).all isD = true)).a ((Cnd.p (VW [AV.agg [AV.v (Value.int IntKind.i64 r.k), AV.v (Value.int IntKind.i64 r.n), AV.v (Value.string r.t), AV.v (Value.slice r.la r.ll r.lc), AV.v (Value.slice r.na r.nl r.nc)], AV.ptr 1100 0, AV.v (Value.int IntKind.i64 (Int.ofNat 0)), AV.v (Value.bool false), AV.v (Value.string b), AV.v (Value.bool true), AV.v (Value.int IntKind.i64 (Int.ofNat 0)), AV.v (Value.int IntKind.i64 (Int.ofNat 0)), AV.ptr 1100 2, AV.v (Value.string r.t), AV.v (Value.string r.t), AV.v (Value.int IntKind.i64 ↑r.t.size), AV.lit true, AV.lit true, AV.v (Value.string r.t), AV.v (Value.int IntKind.u8 ↑x.toNat), AV.lit true, AV.lit true, AV.v (Value.string r.t), AV.v (Value.string b), AV.ptr 1100 0, AV.v (Value.int IntKind.i64 r.k), AV.v (Value.bool (r.k != Int.ofNat 3)), AV.lit false, AV.v (Value.string b), AV.v (Value.int IntKind.i64 ↑b.size), AV.v (Value.bool (↑b.size == Int.ofNat 0)), AV.v (Value.bool (↑b.size == Int.ofNat 0)), AV.lit false, AV.v (Value.string b), AV.v (Value.int IntKind.i64 ↑b.size), AV.v (Value.bool (decide (↑b.size > Int.ofNat 18))), AV.v (Value.bool (decide (↑b.size > Int.ofNat 18))), AV.lit false, AV.v (Value.string b), AV.v (Value.int IntKind.i64 ↑b.size), AV.v (Value.bool (decide (↑b.size > Int.ofNat 1))), AV.lit true, AV.v (Value.string b), AV.v (Value.int IntKind.u8 ↑y.toNat), AV.v (Value.bool (↑y.toNat == Int.ofNat 48)), AV.v (Value.bool (↑y.toNat == Int.ofNat 48)), AV.v (Value.bool (↑y.toNat == Int.ofNat 48)), AV.lit false, AV.v (Value.string b), AV.v (Value.int IntKind.i64 (Int.ofNat (digE (bts b) 0))), AV.v (Value.string b), AV.v (Value.int IntKind.i64 ↑b.size), AV.v (Value.bool (Int.ofNat (digE (bts b) 0) != ↑b.size)), AV.lit false, AV.undef, AV.undef, AV.undef, AV.undef, AV.undef, AV.undef, AV.undef, AV.undef, AV.undef, AV.undef, AV.undef, AV.undef, AV.undef, AV.undef, AV.undef, AV.undef, AV.undef, AV.undef] [AV.any, AV.any, AV.any, AV.any, AV.v (Value.string b), AV.v (Value.bool true), AV.v (Value.int IntKind.i64 (Int.ofNat 0)), AV.v (Value.int IntKind.i64 (Int.ofNat 0)), AV.any, AV.any, AV.any, AV.any, AV.any, AV.any, AV.any, AV.any, AV.any, AV.any, AV.any, AV.any, AV.any, AV.any, AV.any, AV.any, AV.any, AV.any, AV.any, AV.any, AV.any, AV.any, AV.any, AV.any, AV.any, AV.any, AV.any, AV.any, AV.any, AV.any, AV.any, AV.any, AV.any, AV.any, AV.any, AV.any, AV.any, AV.any, AV.any, AV.any, AV.any, AV.any, AV.any, AV.any, AV.any, AV.any, AV.any, AV.any, AV.any, AV.any, AV.any, AV.any, AV.any, AV.any, AV.any, AV.any, AV.any, AV.any, AV.any, AV.any])).a Cnd.t)))))))))))) (VT.leaf (AV.tuple [AV.v (Value.int IntKind.i64 (Int.ofNat (dval 0 (bts b)))), AV.v (Value.bool true)]) [] 1101 (((Cnd.p (true = true)).a ((Cnd.p (AV.v (Value.string r.t) = AV.v (Value.string r.t))).a Cnd.t)).a (((Cnd.p (Wk (AV.v (Value.bool (decide (↑r.t.size > Int.ofNat 0)))) (AV.lit true))).a Cnd.t).a (((Cnd.p (0 < r.t.size)).a ((Cnd.p (Wk (AV.v (Value.int IntKind.u8 ↑(r.t.data.toList.getD 0 0).toNat)) (AV.v (Value.int IntKind.u8 ↑x.toNat)))).a Cnd.t)).a (((Cnd.p (Wk (AV.v (Value.bool (↑x.toNat == Int.ofNat 45))) (AV.lit true))).a Cnd.t).a (((Cnd.p (1 ≤ r.t.size)).a ((Cnd.p (r.t.size ≤ r.t.size)).a ((Cnd.p (Wk (AV.v (Value.string (r.t.extract 1 r.t.size))) (AV.v (Value.string b)))).a Cnd.t))).a (((Cnd.p (true = true)).a ((Cnd.p (AV.v (Value.int IntKind.i64 r.k) = AV.v (Value.int IntKind.i64 r.k))).a Cnd.t)).a (((Cnd.p (0 < b.size)).a ((Cnd.p (Wk (AV.v (Value.int IntKind.u8 ↑(b.data.toList.getD 0 0).toNat)) (AV.v (Value.int IntKind.u8 ↑y.toNat)))).a Cnd.t)).a (((Cnd.p (0 ≤ b.size ∧ Few b.size)).a ((Cnd.p (VW [AV.v (Value.string b), AV.v (Value.int IntKind.i64 (Int.ofNat 0))] [AV.v (Value.string b), AV.v (Value.int IntKind.i64 (Int.ofNat 0))])).a Cnd.t)).a ((Cnd.p ((fRInt, 8, loopN fRInt 8, lRI).snd.snd.fst = (fRInt, 8, loopN fRInt 8, lRI).snd.snd.fst)).a ((Cnd.p (b.size ≤ 18 ∧ (bts b).all isD = true)).a ((Cnd.p (VW [AV.agg [AV.v (Value.int IntKind.i64 r.k), AV.v (Value.int IntKind.i64 r.n), AV.v (Value.string r.t), AV.v (Value.slice r.la r.ll r.lc), AV.v (Value.slice r.na r.nl r.nc)], AV.ptr 1100 0, AV.v (Value.int IntKind.i64 (Int.ofNat 0)), AV.v (Value.bool false), AV.v (Value.string b), AV.v (Value.bool true), AV.v (Value.int IntKind.i64 (Int.ofNat 0)), AV.v (Value.int IntKind.i64 (Int.ofNat 0)), AV.ptr 1100 2, AV.v (Value.string r.t), AV.v (Value.string r.t), AV.v (Value.int IntKind.i64 ↑r.t.size), AV.lit true, AV.lit true, AV.v (Value.string r.t), AV.v (Value.int IntKind.u8 ↑x.toNat), AV.lit true, AV.lit true, AV.v (Value.string r.t), AV.v (Value.string b), AV.ptr 1100 0, AV.v (Value.int IntKind.i64 r.k), AV.v (Value.bool (r.k != Int.ofNat 3)), AV.lit false, AV.v (Value.string b), AV.v (Value.int IntKind.i64 ↑b.size), AV.v (Value.bool (↑b.size == Int.ofNat 0)), AV.v (Value.bool (↑b.size == Int.ofNat 0)), AV.lit false, AV.v (Value.string b), AV.v (Value.int IntKind.i64 ↑b.size), AV.v (Value.bool (decide (↑b.size > Int.ofNat 18))), AV.v (Value.bool (decide (↑b.size > Int.ofNat 18))), AV.lit false, AV.v (Value.string b), AV.v (Value.int IntKind.i64 ↑b.size), AV.v (Value.bool (decide (↑b.size > Int.ofNat 1))), AV.lit true, AV.v (Value.string b), AV.v (Value.int IntKind.u8 ↑y.toNat), AV.v (Value.bool (↑y.toNat == Int.ofNat 48)), AV.v (Value.bool (↑y.toNat == Int.ofNat 48)), AV.v (Value.bool (↑y.toNat == Int.ofNat 48)), AV.lit false, AV.v (Value.string b), AV.v (Value.int IntKind.i64 (Int.ofNat (digE (bts b) 0))), AV.v (Value.string b), AV.v (Value.int IntKind.i64 ↑b.size), AV.v (Value.bool (Int.ofNat (digE (bts b) 0) != ↑b.size)), AV.lit false, AV.undef, AV.undef, AV.undef, AV.undef, AV.undef, AV.undef, AV.undef, AV.undef, AV.undef, AV.undef, AV.undef, AV.undef, AV.undef, AV.undef, AV.undef, AV.undef, AV.undef, AV.undef] [AV.any, AV.any, AV.any, AV.any, AV.v (Value.string b), AV.v (Value.bool true), AV.v (Value.int IntKind.i64 (Int.ofNat 0)), AV.v (Value.int IntKind.i64 (Int.ofNat 0)), AV.any, AV.any, AV.any, AV.any, AV.any, AV.any, AV.any, AV.any, AV.any, AV.any, AV.any, AV.any, AV.any, AV.any, AV.any, AV.any, AV.any, AV.any, AV.any, AV.any, AV.any, AV.any, AV.any, AV.any, AV.any, AV.any, AV.any, AV.any, AV.any, AV.any, AV.any, AV.any, AV.any, AV.any, AV.any, AV.any, AV.any, AV.any, AV.any, AV.any, AV.any, AV.any, AV.any, AV.any, AV.any, AV.any, AV.any, AV.any, AV.any, AV.any, AV.any, AV.any, AV.any, AV.any, AV.any, AV.any, AV.any, AV.any, AV.any, AV.any])).a Cnd.t))))))))))))))) (VT.ite (Int.ofNat (digE (bts b) 0) != ↑b.size) (VT.leaf (AV.tuple [AV.v (Value.int IntKind.i64 (Int.ofNat 0)), AV.v (Value.bool false)]) [] 1101 (((Cnd.p (true = true)).a ((Cnd.p (AV.v (Value.string r.t) = AV.v (Value.string r.t))).a Cnd.t)).a (((Cnd.p (Wk (AV.v (Value.bool (decide (↑r.t.size > Int.ofNat 0)))) (AV.lit true))).a Cnd.t).a (((Cnd.p (0 < r.t.size)).a ((Cnd.p (Wk (AV.v (Value.int IntKind.u8 ↑(r.t.data.toList.getD 0 0).toNat)) (AV.v (Value.int IntKind.u8 ↑x.toNat)))).a Cnd.t)).a (((Cnd.p (Wk (AV.v (Value.bool (↑x.toNat == Int.ofNat 45))) (AV.lit true))).a Cnd.t).a (((Cnd.p (1 ≤ r.t.size)).a ((Cnd.p (r.t.size ≤ r.t.size)).a ((Cnd.p (Wk (AV.v (Value.string (r.t.extract 1 r.t.size))) (AV.v (Value.string b)))).a Cnd.t))).a (((Cnd.p (true = true)).a ((Cnd.p (AV.v (Value.int IntKind.i64 r.k) = AV.v (Value.int IntKind.i64 r.k))).a Cnd.t)).a (((Cnd.p (0 ≤ b.size ∧ Few b.size)).a ((Cnd.p (VW [AV.v (Value.string b), AV.v (Value.int IntKind.i64 (Int.ofNat 0))] [AV.v (Value.string b), AV.v (Value.int IntKind.i64 (Int.ofNat 0))])).a Cnd.t)).a Cnd.t)))))))) (VT.ite true (VT.leaf (AV.tuple [AV.v (Value.int IntKind.i64 (IntKind.i64.wrap (Int.ofNat 0 - Int.ofNat (dval 0 (bts b))))), AV.v (Value.bool true)]) [] 1101 (((Cnd.p (true = true)).a ((Cnd.p (AV.v (Value.string r.t) = AV.v (Value.string r.t))).a Cnd.t)).a (((Cnd.p (Wk (AV.v (Value.bool (decide (↑r.t.size > Int.ofNat 0)))) (AV.lit true))).a Cnd.t).a (((Cnd.p (0 < r.t.size)).a ((Cnd.p (Wk (AV.v (Value.int IntKind.u8 ↑(r.t.data.toList.getD 0 0).toNat)) (AV.v (Value.int IntKind.u8 ↑x.toNat)))).a Cnd.t)).a (((Cnd.p (Wk (AV.v (Value.bool (↑x.toNat == Int.ofNat 45))) (AV.lit true))).a Cnd.t).a (((Cnd.p (1 ≤ r.t.size)).a ((Cnd.p (r.t.size ≤ r.t.size)).a ((Cnd.p (Wk (AV.v (Value.string (r.t.extract 1 r.t.size))) (AV.v (Value.string b)))).a Cnd.t))).a (((Cnd.p (true = true)).a ((Cnd.p (AV.v (Value.int IntKind.i64 r.k) = AV.v (Value.int IntKind.i64 r.k))).a Cnd.t)).a (((Cnd.p (0 ≤ b.size ∧ Few b.size)).a ((Cnd.p (VW [AV.v (Value.string b), AV.v (Value.int IntKind.i64 (Int.ofNat 0))] [AV.v (Value.string b), AV.v (Value.int IntKind.i64 (Int.ofNat 0))])).a Cnd.t)).a ((Cnd.p ((fRInt, 8, loopN fRInt 8, lRI).snd.snd.fst = (fRInt, 8, loopN fRInt 8, lRI).snd.snd.fst)).a ((Cnd.p (b.size ≤ 18 ∧ (bts b).all isD = true)).a ((Cnd.p (VW [AV.agg [AV.v (Value.int IntKind.i64 r.k), AV.v (Value.int IntKind.i64 r.n), AV.v (Value.string r.t), AV.v (Value.slice r.la r.ll r.lc), AV.v (Value.slice r.na r.nl r.nc)], AV.ptr 1100 0, AV.v (Value.int IntKind.i64 (Int.ofNat 0)), AV.v (Value.bool false), AV.v (Value.string b), AV.v (Value.bool true), AV.v (Value.int IntKind.i64 (Int.ofNat 0)), AV.v (Value.int IntKind.i64 (Int.ofNat 0)), AV.ptr 1100 2, AV.v (Value.string r.t), AV.v (Value.string r.t), AV.v (Value.int IntKind.i64 ↑r.t.size), AV.lit true, AV.lit true, AV.v (Value.string r.t), AV.v (Value.int IntKind.u8 ↑x.toNat), AV.lit true, AV.lit true, AV.v (Value.string r.t), AV.v (Value.string b), AV.ptr 1100 0, AV.v (Value.int IntKind.i64 r.k), AV.v (Value.bool (r.k != Int.ofNat 3)), AV.lit false, AV.v (Value.string b), AV.v (Value.int IntKind.i64 ↑b.size), AV.v (Value.bool (↑b.size == Int.ofNat 0)), AV.v (Value.bool (↑b.size == Int.ofNat 0)), AV.lit false, AV.v (Value.string b), AV.v (Value.int IntKind.i64 ↑b.size), AV.v (Value.bool (decide (↑b.size > Int.ofNat 18))), AV.v (Value.bool (decide (↑b.size > Int.ofNat 18))), AV.lit false, AV.v (Value.string b), AV.v (Value.int IntKind.i64 ↑b.size), AV.v (Value.bool (decide (↑b.size > Int.ofNat 1))), AV.lit false, AV.undef, AV.undef, AV.undef, AV.lit false, AV.lit false, AV.lit false, AV.v (Value.string b), AV.v (Value.int IntKind.i64 (Int.ofNat (digE (bts b) 0))), AV.v (Value.string b), AV.v (Value.int IntKind.i64 ↑b.size), AV.v (Value.bool (Int.ofNat (digE (bts b) 0) != ↑b.size)), AV.lit false, AV.undef, AV.undef, AV.undef, AV.undef, AV.undef, AV.undef, AV.undef, AV.undef, AV.undef, AV.undef, AV.undef, AV.undef, AV.undef, AV.undef, AV.undef, AV.undef, AV.undef, AV.undef] [AV.any, AV.any, AV.any, AV.any, AV.v (Value.string b), AV.v (Value.bool true), AV.v (Value.int IntKind.i64 (Int.ofNat 0)), AV.v (Value.int IntKind.i64 (Int.ofNat 0)), AV.any, AV.any, AV.any, AV.any, AV.any, AV.any, AV.any, AV.any, AV.any, AV.any, AV.any, AV.any, AV.any, AV.any, AV.any, AV.any, AV.any, AV.any, AV.any, AV.any, AV.any, AV.any, AV.any, AV.any, AV.any, AV.any, AV.any, AV.any, AV.any, AV.any, AV.any, AV.any, AV.any, AV.any, AV.any, AV.any, AV.any, AV.any, AV.any, AV.any, AV.any, AV.any, AV.any, AV.any, AV.any, AV.any, AV.any, AV.any, AV.any, AV.any, AV.any, AV.any, AV.any, AV.any, AV.any, AV.any, AV.any, AV.any, AV.any, AV.any])).a Cnd.t))))))))))) (VT.leaf (AV.tuple [AV.v (Value.int IntKind.i64 (Int.ofNat (dval 0 (bts b)))), AV.v (Value.bool true)]) [] 1101 (((Cnd.p (true = true)).a ((Cnd.p (AV.v (Value.string r.t) = AV.v (Value.string r.t))).a Cnd.t)).a (((Cnd.p (Wk (AV.v (Value.bool (decide (↑r.t.size > Int.ofNat 0)))) (AV.lit true))).a Cnd.t).a (((Cnd.p (0 < r.t.size)).a ((Cnd.p (Wk (AV.v (Value.int IntKind.u8 ↑(r.t.data.toList.getD 0 0).toNat)) (AV.v (Value.int IntKind.u8 ↑x.toNat)))).a Cnd.t)).a (((Cnd.p (Wk (AV.v (Value.bool (↑x.toNat == Int.ofNat 45))) (AV.lit true))).a Cnd.t).a (((Cnd.p (1 ≤ r.t.size)).a ((Cnd.p (r.t.size ≤ r.t.size)).a ((Cnd.p (Wk (AV.v (Value.string (r.t.extract 1 r.t.size))) (AV.v (Value.string b)))).a Cnd.t))).a (((Cnd.p (true = true)).a ((Cnd.p (AV.v (Value.int IntKind.i64 r.k) = AV.v (Value.int IntKind.i64 r.k))).a Cnd.t)).a (((Cnd.p (0 ≤ b.size ∧ Few b.size)).a ((Cnd.p (VW [AV.v (Value.string b), AV.v (Value.int IntKind.i64 (Int.ofNat 0))] [AV.v (Value.string b), AV.v (Value.int IntKind.i64 (Int.ofNat 0))])).a Cnd.t)).a ((Cnd.p ((fRInt, 8, loopN fRInt 8, lRI).snd.snd.fst = (fRInt, 8, loopN fRInt 8, lRI).snd.snd.fst)).a ((Cnd.p (b.size ≤ 18 ∧ (bts b).all isD = true)).a ((Cnd.p (VW [AV.agg [AV.v (Value.int IntKind.i64 r.k), AV.v (Value.int IntKind.i64 r.n), AV.v (Value.string r.t), AV.v (Value.slice r.la r.ll r.lc), AV.v (Value.slice r.na r.nl r.nc)], AV.ptr 1100 0, AV.v (Value.int IntKind.i64 (Int.ofNat 0)), AV.v (Value.bool false), AV.v (Value.string b), AV.v (Value.bool true), AV.v (Value.int IntKind.i64 (Int.ofNat 0)), AV.v (Value.int IntKind.i64 (Int.ofNat 0)), AV.ptr 1100 2, AV.v (Value.string r.t), AV.v (Value.string r.t), AV.v (Value.int IntKind.i64 ↑r.t.size), AV.lit true, AV.lit true, AV.v (Value.string r.t), AV.v (Value.int IntKind.u8 ↑x.toNat), AV.lit true, AV.lit true, AV.v (Value.string r.t), AV.v (Value.string b), AV.ptr 1100 0, AV.v (Value.int IntKind.i64 r.k), AV.v (Value.bool (r.k != Int.ofNat 3)), AV.lit false, AV.v (Value.string b), AV.v (Value.int IntKind.i64 ↑b.size), AV.v (Value.bool (↑b.size == Int.ofNat 0)), AV.v (Value.bool (↑b.size == Int.ofNat 0)), AV.lit false, AV.v (Value.string b), AV.v (Value.int IntKind.i64 ↑b.size), AV.v (Value.bool (decide (↑b.size > Int.ofNat 18))), AV.v (Value.bool (decide (↑b.size > Int.ofNat 18))), AV.lit false, AV.v (Value.string b), AV.v (Value.int IntKind.i64 ↑b.size), AV.v (Value.bool (decide (↑b.size > Int.ofNat 1))), AV.lit false, AV.undef, AV.undef, AV.undef, AV.lit false, AV.lit false, AV.lit false, AV.v (Value.string b), AV.v (Value.int IntKind.i64 (Int.ofNat (digE (bts b) 0))), AV.v (Value.string b), AV.v (Value.int IntKind.i64 ↑b.size), AV.v (Value.bool (Int.ofNat (digE (bts b) 0) != ↑b.size)), AV.lit false, AV.undef, AV.undef, AV.undef, AV.undef, AV.undef, AV.undef, AV.undef, AV.undef, AV.undef, AV.undef, AV.undef, AV.undef, AV.undef, AV.undef, AV.undef, AV.undef, AV.undef, AV.undef] [AV.any, AV.any, AV.any, AV.any, AV.v (Value.string b), AV.v (Value.bool true), AV.v (Value.int IntKind.i64 (Int.ofNat 0)), AV.v (Value.int IntKind.i64 (Int.ofNat 0)), AV.any, AV.any, AV.any, AV.any, AV.any, AV.any, AV.any, AV.any, AV.any, AV.any, AV.any, AV.any, AV.any, AV.any, AV.any, AV.any, AV.any, AV.any, AV.any, AV.any, AV.any, AV.any, AV.any, AV.any, AV.any, AV.any, AV.any, AV.any, AV.any, AV.any, AV.any, AV.any, AV.any, AV.any, AV.any, AV.any, AV.any, AV.any, AV.any, AV.any, AV.any, AV.any, AV.any, AV.any, AV.any, AV.any, AV.any, AV.any, AV.any, AV.any, AV.any, AV.any, AV.any, AV.any, AV.any, AV.any, AV.any, AV.any, AV.any, AV.any])).a Cnd.t)))))))))))))))) := by kernel_rfl
theorem oRiZ_eq (W : World) (r : Rj) (x y : UInt8) (F : HP) : wRun conR (hRI x y nil0 false false) [(fRInt, 8, loopN fRInt 8, lRI)] W fRInt [aggJ r] [] [] F = VT.ite (r.k != Int.ofNat 3) (VT.leaf (AV.tuple [AV.v (Value.int IntKind.i64 (Int.ofNat 0)), AV.v (Value.bool false)]) [] 1101 (((Cnd.p (true = true)).a ((Cnd.p (AV.v (Value.string r.t) = AV.v (Value.string r.t))).a Cnd.t)).a (((Cnd.p (Wk (AV.v (Value.bool (decide (↑r.t.size > Int.ofNat 0)))) (AV.lit false))).a Cnd.t).a (((Cnd.p (true = true)).a ((Cnd.p (AV.v (Value.int IntKind.i64 r.k) = AV.v (Value.int IntKind.i64 r.k))).a Cnd.t)).a Cnd.t)))) (VT.ite (↑r.t.size == Int.ofNat 0) (VT.leaf (AV.tuple [AV.v (Value.int IntKind.i64 (Int.ofNat 0)), AV.v (Value.bool false)]) [] 1101 (((Cnd.p (true = true)).a ((Cnd.p (AV.v (Value.string r.t) = AV.v (Value.string r.t))).a Cnd.t)).a (((Cnd.p (Wk (AV.v (Value.bool (decide (↑r.t.size > Int.ofNat 0)))) (AV.lit false))).a Cnd.t).a (((Cnd.p (true = true)).a ((Cnd.p (AV.v (Value.int IntKind.i64 r.k) = AV.v (Value.int IntKind.i64 r.k))).a Cnd.t)).a Cnd.t)))) (VT.ite (decide (↑r.t.size > Int.ofNat 18)) (VT.leaf (AV.tuple [AV.v (Value.int IntKind.i64 (Int.ofNat 0)), AV.v (Value.bool false)]) [] 1101 (((Cnd.p (true = true)).a ((Cnd.p (AV.v (Value.string r.t) = AV.v (Value.string r.t))).a Cnd.t)).a (((Cnd.p (Wk (AV.v (Value.bool (decide (↑r.t.size > Int.ofNat 0)))) (AV.lit false))).a Cnd.t).a (((Cnd.p (true = true)).a ((Cnd.p (AV.v (Value.int IntKind.i64 r.k) = AV.v (Value.int IntKind.i64 r.k))).a Cnd.t)).a Cnd.t)))) (VT.ite (decide (↑r.t.size > Int.ofNat 1)) (VT.ite (↑y.toNat == Int.ofNat 48) (VT.leaf (AV.tuple [AV.v (Value.int IntKind.i64 (Int.ofNat 0)), AV.v (Value.bool false)]) [] 1101 (((Cnd.p (true = true)).a ((Cnd.p (AV.v (Value.string r.t) = AV.v (Value.string r.t))).a Cnd.t)).a (((Cnd.p (Wk (AV.v (Value.bool (decide (↑r.t.size > Int.ofNat 0)))) (AV.lit false))).a Cnd.t).a (((Cnd.p (true = true)).a ((Cnd.p (AV.v (Value.int IntKind.i64 r.k) = AV.v (Value.int IntKind.i64 r.k))).a Cnd.t)).a (((Cnd.p (0 < r.t.size)).a ((Cnd.p (Wk (AV.v (Value.int IntKind.u8 ↑(r.t.data.toList.getD 0 0).toNat)) (AV.v (Value.int IntKind.u8 ↑y.toNat)))).a Cnd.t)).a Cnd.t))))) (VT.ite (Int.ofNat (digE (bts r.t) 0) != ↑r.t.size) (VT.leaf (AV.tuple [AV.v (Value.int IntKind.i64 (Int.ofNat 0)), AV.v (Value.bool false)]) [] 1101 (((Cnd.p (true = true)).a ((Cnd.p (AV.v (Value.string r.t) = AV.v (Value.string r.t))).a Cnd.t)).a (((Cnd.p (Wk (AV.v (Value.bool (decide (↑r.t.size > Int.ofNat 0)))) (AV.lit false))).a Cnd.t).a (((Cnd.p (true = true)).a ((Cnd.p (AV.v (Value.int IntKind.i64 r.k) = AV.v (Value.int IntKind.i64 r.k))).a Cnd.t)).a (((Cnd.p (0 < r.t.size)).a ((Cnd.p (Wk (AV.v (Value.int IntKind.u8 ↑(r.t.data.toList.getD 0 0).toNat)) (AV.v (Value.int IntKind.u8 ↑y.toNat)))).a Cnd.t)).a (((Cnd.p (0 ≤ r.t.size ∧ Few r.t.size)).a ((Cnd.p (VW [AV.v (Value.string r.t), AV.v (Value.int IntKind.i64 (Int.ofNat 0))] [AV.v (Value.string r.t), AV.v (Value.int IntKind.i64 (Int.ofNat 0))])).a Cnd.t)).a Cnd.t)))))) (VT.ite false (VT.leaf (AV.tuple [AV.v (Value.int IntKind.i64 (IntKind.i64.wrap (Int.ofNat 0 - Int.ofNat (dval 0 (bts r.t))))), AV.v (Value.bool true)]) [] 1101 (((Cnd.p (true = true)).a ((Cnd.p (AV.v (Value.string r.t) = AV.v (Value.string r.t))).a Cnd.t)).a (((Cnd.p (Wk (AV.v (Value.bool (decide (↑r.t.size > Int.ofNat 0)))) (AV.lit false))).a Cnd.t).a (((Cnd.p (true = true)).a ((Cnd.p (AV.v (Value.int IntKind.i64 r.k) = AV.v (Value.int IntKind.i64 r.k))).a Cnd.t)).a (((Cnd.p (0 < r.t.size)).a ((Cnd.p (Wk (AV.v (Value.int IntKind.u8 ↑(r.t.data.toList.getD 0 0).toNat)) (AV.v (Value.int IntKind.u8 ↑y.toNat)))).a Cnd.t)).a (((Cnd.p (0 ≤ r.t.size ∧ Few r.t.size)).a ((Cnd.p (VW [AV.v (Value.string r.t), AV.v (Value.int IntKind.i64 (Int.ofNat 0))] [AV.v (Value.string r.t), AV.v (Value.int IntKind.i64 (Int.ofNat 0))])).a Cnd.t)).a ((Cnd.p ((fRInt, 8, loopN fRInt 8, lRI).snd.snd.fst = (fRInt, 8, loopN fRInt 8, lRI).snd.snd.fst)).a ((Cnd.p (r.t.size ≤ 18 ∧ (bts r.t).all isD = true)).a ((Cnd.p (VW [AV.agg [AV.v (Value.int IntKind.i64 r.k), AV.v (Value.int IntKind.i64 r.n), AV.v (Value.string r.t), AV.v (Value.slice r.la r.ll r.lc), AV.v (Value.slice r.na r.nl r.nc)], AV.ptr 1100 0, AV.v (Value.int IntKind.i64 (Int.ofNat 0)), AV.v (Value.bool false), AV.v (Value.string r.t), AV.v (Value.bool false), AV.v (Value.int IntKind.i64 (Int.ofNat 0)), AV.v (Value.int IntKind.i64 (Int.ofNat 0)), AV.ptr 1100 2, AV.v (Value.string r.t), AV.v (Value.string r.t), AV.v (Value.int IntKind.i64 ↑r.t.size), AV.lit false, AV.lit false, AV.undef, AV.undef, AV.undef, AV.lit false, AV.undef, AV.undef, AV.ptr 1100 0, AV.v (Value.int IntKind.i64 r.k), AV.v (Value.bool (r.k != Int.ofNat 3)), AV.lit false, AV.v (Value.string r.t), AV.v (Value.int IntKind.i64 ↑r.t.size), AV.v (Value.bool (↑r.t.size == Int.ofNat 0)), AV.v (Value.bool (↑r.t.size == Int.ofNat 0)), AV.lit false, AV.v (Value.string r.t), AV.v (Value.int IntKind.i64 ↑r.t.size), AV.v (Value.bool (decide (↑r.t.size > Int.ofNat 18))), AV.v (Value.bool (decide (↑r.t.size > Int.ofNat 18))), AV.lit false, AV.v (Value.string r.t), AV.v (Value.int IntKind.i64 ↑r.t.size), AV.v (Value.bool (decide (↑r.t.size > Int.ofNat 1))), AV.lit true, AV.v (Value.string r.t), AV.v (Value.int IntKind.u8 ↑y.toNat), AV.v (Value.bool (↑y.toNat == Int.ofNat 48)), AV.v (Value.bool (↑y.toNat == Int.ofNat 48)), AV.v (Value.bool (↑y.toNat == Int.ofNat 48)), AV.lit false, AV.v (Value.string r.t), AV.v (Value.int IntKind.i64 (Int.ofNat (digE (bts r.t) 0))), AV.v (Value.string r.t), AV.v (Value.int IntKind.i64 ↑r.t.size), AV.v (Value.bool (Int.ofNat (digE (bts r.t) 0) != ↑r.t.size)), AV.lit false, AV.undef, AV.undef, AV.undef, AV.undef, AV.undef, AV.undef, AV.undef, AV.undef, AV.undef, AV.undef, AV.undef, AV.undef, AV.undef, AV.undef, AV.undef, AV.undef, AV.undef, AV.undef] [AV.any, AV.any, AV.any, AV.any, AV.v (Value.string r.t), AV.v (Value.bool false), AV.v (Value.int IntKind.i64 (Int.ofNat 0)), AV.v (Value.int IntKind.i64 (Int.ofNat 0)), AV.any, AV.any, AV.any, AV.any, AV.any, AV.any, AV.any, AV.any, AV.any, AV.any, AV.any, AV.any, AV.any, AV.any, AV.any, AV.any, AV.any, AV.any, AV.any, AV.any, AV.any, AV.any, AV.any, AV.any, AV.any, AV.any, AV.any, AV.any, AV.any, AV.any, AV.any, AV.any, AV.any, AV.any, AV.any, AV.any, AV.any, AV.any, AV.any, AV.any, AV.any, AV.any, AV.any, AV.any, AV.any, AV.any, AV.any, AV.any, AV.any, AV.any, AV.any, AV.any, AV.any, AV.any, AV.any, AV.any, AV.any, AV.any, AV.any, AV.any])).a Cnd.t))))))))) (VT.leaf (AV.tuple [AV.v (Value.int IntKind.i64 (Int.ofNat (dval 0 (bts r.t)))), AV.v (Value.bool true)]) [] 1101 (((Cnd.p (true = true)).a ((Cnd.p (AV.v (Value.string r.t) = AV.v (Value.string r.t))).a Cnd.t)).a (((Cnd.p (Wk (AV.v (Value.bool (decide (↑r.t.size > Int.ofNat 0)))) (AV.lit false))).a Cnd.t).a (((Cnd.p (true = true)).a ((Cnd.p (AV.v (Value.int IntKind.i64 r.k) = AV.v (Value.int IntKind.i64 r.k))).a Cnd.t)).a (((Cnd.p (0 < r.t.size)).a ((Cnd.p (Wk (AV.v (Value.int IntKind.u8 ↑(r.t.data.toList.getD 0 0).toNat)) (AV.v (Value.int IntKind.u8 ↑y.toNat)))).a Cnd.t)).a (((Cnd.p (0 ≤ r.t.size ∧ Few r.t.size)).a ((Cnd.p (VW [AV.v (Value.string r.t), AV.v (Value.int IntKind.i64 (Int.ofNat 0))] [AV.v (Value.string r.t), AV.v (Value.int IntKind.i64 (Int.ofNat 0))])).a Cnd.t)).a ((Cnd.p ((fRInt, 8, loopN fRInt 8, lRI).snd.snd.fst = (fRInt, 8, loopN fRInt 8, lRI).snd.snd.fst)).a ((Cnd.p (r.t.size ≤ 18 ∧ (bts r.t).all isD = true)).a ((Cnd.p (VW [AV.agg [AV.v (Value.int IntKind.i64 r.k), AV.v (Value.int IntKind.i64 r.n), AV.v (Value.string r.t), AV.v (Value.slice r.la r.ll r.lc), AV.v (Value.slice r.na r.nl r.nc)], AV.ptr 1100 0, AV.v (Value.int IntKind.i64 (Int.ofNat 0)), AV.v (Value.bool false), AV.v (Value.string r.t), AV.v (Value.bool false), AV.v (Value.int IntKind.i64 (Int.ofNat 0)), AV.v (Value.int IntKind.i64 (Int.ofNat 0)), AV.ptr 1100 2, AV.v (Value.string r.t), AV.v (Value.string r.t), AV.v (Value.int IntKind.i64 ↑r.t.size), AV.lit false, AV.lit false, AV.undef, AV.undef, AV.undef, AV.lit false, AV.undef, AV.undef, AV.ptr 1100 0, AV.v (Value.int IntKind.i64 r.k), AV.v (Value.bool (r.k != Int.ofNat 3)), AV.lit false, AV.v (Value.string r.t), AV.v (Value.int IntKind.i64 ↑r.t.size), AV.v (Value.bool (↑r.t.size == Int.ofNat 0)), AV.v (Value.bool (↑r.t.size == Int.ofNat 0)), AV.lit false, AV.v (Value.string r.t), AV.v (Value.int IntKind.i64 ↑r.t.size), AV.v (Value.bool (decide (↑r.t.size > Int.ofNat 18))), AV.v (Value.bool (decide (↑r.t.size > Int.ofNat 18))), AV.lit false, AV.v (Value.string r.t), AV.v (Value.int IntKind.i64 ↑r.t.size), AV.v (Value.bool (decide (↑r.t.size > Int.ofNat 1))), AV.lit true, AV.v (Value.string r.t), AV.v (Value.int IntKind.u8 ↑y.toNat), AV.v (Value.bool (↑y.toNat == Int.ofNat 48)), AV.v (Value.bool (↑y.toNat == Int.ofNat 48)), AV.v (Value.bool (↑y.toNat == Int.ofNat 48)), AV.lit false, AV.v (Value.string r.t), AV.v (Value.int IntKind.i64 (Int.ofNat (digE (bts r.t) 0))), AV.v (Value.string r.t), AV.v (Value.int IntKind.i64 ↑r.t.size), AV.v (Value.bool (Int.ofNat (digE (bts r.t) 0) != ↑r.t.size)), AV.lit false, AV.undef, AV.undef, AV.undef, AV.undef, AV.undef, AV.undef, AV.undef, AV.undef, AV.undef, AV.undef, AV.undef, AV.undef, AV.undef, AV.undef, AV.undef, AV.undef, AV.undef, AV.undef] [AV.any, AV.any, AV.any, AV.any, AV.v (Value.string r.t), AV.v (Value.bool false), AV.v (Value.int IntKind.i64 (Int.ofNat 0)), AV.v (Value.int IntKind.i64 (Int.ofNat 0)), AV.any, AV.any, AV.any, AV.any, AV.any, AV.any, AV.any, AV.any, AV.any, AV.any, AV.any, AV.any, AV.any, AV.any, AV.any, AV.any, AV.any, AV.any, AV.any, AV.any, AV.any, AV.any, AV.any, AV.any, AV.any, AV.any, AV.any, AV.any, AV.any, AV.any, AV.any, AV.any, AV.any, AV.any, AV.any, AV.any, AV.any, AV.any, AV.any, AV.any, AV.any, AV.any, AV.any, AV.any, AV.any, AV.any, AV.any, AV.any, AV.any, AV.any, AV.any, AV.any, AV.any, AV.any, AV.any, AV.any, AV.any, AV.any, AV.any, AV.any])).a Cnd.t)))))))))))) (VT.ite (Int.ofNat (digE (bts r.t) 0) != ↑r.t.size) (VT.leaf (AV.tuple [AV.v (Value.int IntKind.i64 (Int.ofNat 0)), AV.v (Value.bool false)]) [] 1101 (((Cnd.p (true = true)).a ((Cnd.p (AV.v (Value.string r.t) = AV.v (Value.string r.t))).a Cnd.t)).a (((Cnd.p (Wk (AV.v (Value.bool (decide (↑r.t.size > Int.ofNat 0)))) (AV.lit false))).a Cnd.t).a (((Cnd.p (true = true)).a ((Cnd.p (AV.v (Value.int IntKind.i64 r.k) = AV.v (Value.int IntKind.i64 r.k))).a Cnd.t)).a (((Cnd.p (0 ≤ r.t.size ∧ Few r.t.size)).a ((Cnd.p (VW [AV.v (Value.string r.t), AV.v (Value.int IntKind.i64 (Int.ofNat 0))] [AV.v (Value.string r.t), AV.v (Value.int IntKind.i64 (Int.ofNat 0))])).a Cnd.t)).a Cnd.t))))) (VT.ite false (VT.leaf (AV.tuple [AV.v (Value.int IntKind.i64 (IntKind.i64.wrap (Int.ofNat 0 - Int.ofNat (dval 0 (bts r.t))))), AV.v (Value.bool true)]) [] 1101 (((Cnd.p (true = true)).a ((Cnd.p (AV.v (Value.string r.t) = AV.v (Value.string r.t))).a Cnd.t)).a (((Cnd.p (Wk (AV.v (Value.bool (decide (↑r.t.size > Int.ofNat 0)))) (AV.lit false))).a Cnd.t).a (((Cnd.p (true = true)).a ((Cnd.p (AV.v (Value.int IntKind.i64 r.k) = AV.v (Value.int IntKind.i64 r.k))).a Cnd.t)).a (((Cnd.p (0 ≤ r.t.size ∧ Few r.t.size)).a ((Cnd.p (VW [AV.v (Value.string r.t), AV.v (Value.int IntKind.i64 (Int.ofNat 0))] [AV.v (Value.string r.t), AV.v (Value.int IntKind.i64 (Int.ofNat 0))])).a Cnd.t)).a ((Cnd.p ((fRInt, 8, loopN fRInt 8, lRI).snd.snd.fst = (fRInt, 8, loopN fRInt 8, lRI).snd.snd.fst)).a ((Cnd.p (r.t.size ≤ 18 ∧ (bts r.t).all isD = true)).a ((Cnd.p (VW [AV.agg [AV.v (Value.int IntKind.i64 r.k), AV.v (Value.int IntKind.i64 r.n), AV.v (Value.string r.t), AV.v (Value.slice r.la r.ll r.lc), AV.v (Value.slice r.na r.nl r.nc)], AV.ptr 1100 0, AV.v (Value.int IntKind.i64 (Int.ofNat 0)), AV.v (Value.bool false), AV.v (Value.string r.t), AV.v (Value.bool false), AV.v (Value.int IntKind.i64 (Int.ofNat 0)), AV.v (Value.int IntKind.i64 (Int.ofNat 0)), AV.ptr 1100 2, AV.v (Value.string r.t), AV.v (Value.string r.t), AV.v (Value.int IntKind.i64 ↑r.t.size), AV.lit false, AV.lit false, AV.undef, AV.undef, AV.undef, AV.lit false, AV.undef, AV.undef, AV.ptr 1100 0, AV.v (Value.int IntKind.i64 r.k), AV.v (Value.bool (r.k != Int.ofNat 3)), AV.lit false, AV.v (Value.string r.t), AV.v (Value.int IntKind.i64 ↑r.t.size), AV.v (Value.bool (↑r.t.size == Int.ofNat 0)), AV.v (Value.bool (↑r.t.size == Int.ofNat 0)), AV.lit false, AV.v (Value.string r.t), AV.v (Value.int IntKind.i64 ↑r.t.size), AV.v (Value.bool (decide (↑r.t.size > Int.ofNat 18))), AV.v (Value.bool (decide (↑r.t.size > Int.ofNat 18))), AV.lit false, AV.v (Value.string r.t), AV.v (Value.int IntKind.i64 ↑r.t.size), AV.v (Value.bool (decide (↑r.t.size > Int.ofNat 1))), AV.lit false, AV.undef, AV.undef, AV.undef, AV.lit false, AV.lit false, AV.lit false, AV.v (Value.string r.t), AV.v (Value.int IntKind.i64 (Int.ofNat (digE (bts r.t) 0))), AV.v (Value.string r.t), AV.v (Value.int IntKind.i64 ↑r.t.size), AV.v (Value.bool (Int.ofNat (digE (bts r.t) 0) != ↑r.t.size)), AV.lit false, AV.undef, AV.undef, AV.undef, AV.undef, AV.undef, AV.undef, AV.undef, AV.undef, AV.undef, AV.undef, AV.undef, AV.undef, AV.undef, AV.undef, AV.undef, AV.undef, AV.undef, AV.undef] [AV.any, AV.any, AV.any, AV.any, AV.v (Value.string r.t), AV.v (Value.bool false), AV.v (Value.int IntKind.i64 (Int.ofNat 0)), AV.v (Value.int IntKind.i64 (Int.ofNat 0)), AV.any, AV.any, AV.any, AV.any, AV.any, AV.any, AV.any, AV.any, AV.any, AV.any, AV.any, AV.any, AV.any, AV.any, AV.any, AV.any, AV.any, AV.any, AV.any, AV.any, AV.any, AV.any, AV.any, AV.any, AV.any, AV.any, AV.any, AV.any, AV.any, AV.any, AV.any, AV.any, AV.any, AV.any, AV.any, AV.any, AV.any, AV.any, AV.any, AV.any, AV.any, AV.any, AV.any, AV.any, AV.any, AV.any, AV.any, AV.any, AV.any, AV.any, AV.any, AV.any, AV.any, AV.any, AV.any, AV.any, AV.any, AV.any, AV.any, AV.any])).a Cnd.t)))))))) (VT.leaf (AV.tuple [AV.v (Value.int IntKind.i64 (Int.ofNat (dval 0 (bts r.t)))), AV.v (Value.bool true)]) [] 1101 (((Cnd.p (true = true)).a ((Cnd.p (AV.v (Value.string r.t) = AV.v (Value.string r.t))).a Cnd.t)).a (((Cnd.p (Wk (AV.v (Value.bool (decide (↑r.t.size > Int.ofNat 0)))) (AV.lit false))).a Cnd.t).a (((Cnd.p (true = true)).a ((Cnd.p (AV.v (Value.int IntKind.i64 r.k) = AV.v (Value.int IntKind.i64 r.k))).a Cnd.t)).a (((Cnd.p (0 ≤ r.t.size ∧ Few r.t.size)).a ((Cnd.p (VW [AV.v (Value.string r.t), AV.v (Value.int IntKind.i64 (Int.ofNat 0))] [AV.v (Value.string r.t), AV.v (Value.int IntKind.i64 (Int.ofNat 0))])).a Cnd.t)).a ((Cnd.p ((fRInt, 8, loopN fRInt 8, lRI).snd.snd.fst = (fRInt, 8, loopN fRInt 8, lRI).snd.snd.fst)).a ((Cnd.p (r.t.size ≤ 18 ∧ (bts r.t).all isD = true)).a ((Cnd.p (VW [AV.agg [AV.v (Value.int IntKind.i64 r.k), AV.v (Value.int IntKind.i64 r.n), AV.v (Value.string r.t), AV.v (Value.slice r.la r.ll r.lc), AV.v (Value.slice r.na r.nl r.nc)], AV.ptr 1100 0, AV.v (Value.int IntKind.i64 (Int.ofNat 0)), AV.v (Value.bool false), AV.v (Value.string r.t), AV.v (Value.bool false), AV.v (Value.int IntKind.i64 (Int.ofNat 0)), AV.v (Value.int IntKind.i64 (Int.ofNat 0)), AV.ptr 1100 2, AV.v (Value.string r.t), AV.v (Value.string r.t), AV.v (Value.int IntKind.i64 ↑r.t.size), AV.lit false, AV.lit false, AV.undef, AV.undef, AV.undef, AV.lit false, AV.undef, AV.undef, AV.ptr 1100 0, AV.v (Value.int IntKind.i64 r.k), AV.v (Value.bool (r.k != Int.ofNat 3)), AV.lit false, AV.v (Value.string r.t), AV.v (Value.int IntKind.i64 ↑r.t.size), AV.v (Value.bool (↑r.t.size == Int.ofNat 0)), AV.v (Value.bool (↑r.t.size == Int.ofNat 0)), AV.lit false, AV.v (Value.string r.t), AV.v (Value.int IntKind.i64 ↑r.t.size), AV.v (Value.bool (decide (↑r.t.size > Int.ofNat 18))), AV.v (Value.bool (decide (↑r.t.size > Int.ofNat 18))), AV.lit false, AV.v (Value.string r.t), AV.v (Value.int IntKind.i64 ↑r.t.size), AV.v (Value.bool (decide (↑r.t.size > Int.ofNat 1))), AV.lit false, AV.undef, AV.undef, AV.undef, AV.lit false, AV.lit false, AV.lit false, AV.v (Value.string r.t), AV.v (Value.int IntKind.i64 (Int.ofNat (digE (bts r.t) 0))), AV.v (Value.string r.t), AV.v (Value.int IntKind.i64 ↑r.t.size), AV.v (Value.bool (Int.ofNat (digE (bts r.t) 0) != ↑r.t.size)), AV.lit false, AV.undef, AV.undef, AV.undef, AV.undef, AV.undef, AV.undef, AV.undef, AV.undef, AV.undef, AV.undef, AV.undef, AV.undef, AV.undef, AV.undef, AV.undef, AV.undef, AV.undef, AV.undef] [AV.any, AV.any, AV.any, AV.any, AV.v (Value.string r.t), AV.v (Value.bool false), AV.v (Value.int IntKind.i64 (Int.ofNat 0)), AV.v (Value.int IntKind.i64 (Int.ofNat 0)), AV.any, AV.any, AV.any, AV.any, AV.any, AV.any, AV.any, AV.any, AV.any, AV.any, AV.any, AV.any, AV.any, AV.any, AV.any, AV.any, AV.any, AV.any, AV.any, AV.any, AV.any, AV.any, AV.any, AV.any, AV.any, AV.any, AV.any, AV.any, AV.any, AV.any, AV.any, AV.any, AV.any, AV.any, AV.any, AV.any, AV.any, AV.any, AV.any, AV.any, AV.any, AV.any, AV.any, AV.any, AV.any, AV.any, AV.any, AV.any, AV.any, AV.any, AV.any, AV.any, AV.any, AV.any, AV.any, AV.any, AV.any, AV.any, AV.any, AV.any])).a Cnd.t))))))))))))) := by kernel_rfl
end
end Go.Proofs.YtdphpillcaajpaaDoor.Js

/- Json: whole numbers. -/
set_option linter.unusedVariables false
set_option linter.unusedSimpArgs false
set_option maxRecDepth 100000
namespace Go.Proofs.YtdphpillcaajpaaDoor.Js
open Go Go.RowKit Go.Proofs.YtdphpillcaajpaaDoor.Eng Go.Proofs.YtdphpillcaajpaaDoor.Kit
def intR (k : Int) (l : List UInt8) : AV := .tuple [iv (intV k l), bv (intT k l)]
theorem int_no {k : Int} {l : List UInt8} (h : intT k l = false) : VW [AV.tuple [AV.v (.int .i64 (Int.ofNat 0)), AV.v (.bool false)]] [intR k l] := by
  unfold intR intV; rw [h]; exact VW.refl _
theorem int_yes {k : Int} {l : List UInt8} {z : Int} (h : intT k l = true) (hz : ival l = z) : VW [AV.tuple [AV.v (.int .i64 z), AV.v (.bool true)]] [intR k l] := by
  unfold intR intV; rw [h, if_pos rfl, hz]; exact VW.refl _
/-! What tells that it is none. -/
theorem no_k {k : Int} {l : List UInt8} (h : (k != Int.ofNat 3) = true) : intT k l = false := by
  unfold intT
  rw [decide_eq_false (by simpa using h)]; rfl
theorem no_ok {k : Int} {l : List UInt8} (h : intOK (body l) = false) : intT k l = false := by
  unfold intT; rw [h, Bool.and_false]; rfl
theorem no_len {k : Int} {l : List UInt8} (h : 18 < (body l).length) : intT k l = false := by
  unfold intT; rw [decide_eq_false (show ¬ (body l).length ≤ 18 by omega), Bool.and_false]
theorem yes_int {k : Int} {l : List UInt8} (hk : (k != Int.ofNat 3) = false) (h : intOK (body l) = true) (h18 : (body l).length ≤ 18) : intT k l = true := by
  have hk3 : k = 3 := by simpa using hk
  unfold intT; rw [h, decide_eq_true h18, decide_eq_true hk3]; rfl
theorem contains_any : ∀ (l ks : List UInt8), Lib.containsAny l ks = l.any fun c => ks.contains c
  | [], ks => rfl
  | b :: l, ks => by
    have ih := contains_any l ks
    have hge := Lib.indexAny_ge ks l
    unfold Lib.containsAny at *
    unfold Lib.indexAny
    rw [List.any_cons, ← ih]
    cases hb : ks.contains b with
    | true => simp
    | false =>
      rw [if_neg (by decide), Bool.false_or]
      by_cases hm : Lib.indexAny l ks = -1
      · rw [if_pos (by rw [hm]; rfl), hm]
      · rw [if_neg (by simpa using hm)]
        have : (0 ≤ Lib.indexAny l ks + 1) ↔ 0 ≤ Lib.indexAny l ks := by omega
        simp only [this]
theorem any_dots (b : List UInt8) : anyB (tB b) (ByteArray.mk (Array.mk [46, 101, 69])) = !noDots b := by
  unfold anyB
  rw [contains_any, tB_data]
  unfold noDots
  rw [List.all_eq_not_any_not, Bool.not_not]
  simp only [Bool.not_not]
theorem pre_body (t : ByteArray) : preB t (ByteArray.mk (Array.mk [45])) = tB (body (bts t)) := by
  show tB (Lib.trimPrefix (bts t) [45]) = _
  congr 1
  unfold Lib.trimPrefix Lib.hasPrefix
  rcases below_cases (bts t) with ⟨h, b, hl, hb⟩ | ⟨h, hb⟩
  · rw [hb, hl]; rfl
  · rw [hb]
    cases hl : bts t with
    | nil => rfl
    | cons a r =>
      rw [hl] at h
      have ha : a ≠ 45 := by
        intro e
        subst e
        cases h
      have : List.isPrefixOf [45] (a :: r) = false := by
        rw [List.isPrefixOf]
        simp [Ne.symm ha]
      rw [this]; rfl
theorem asc3 : asciiB (ByteArray.mk (Array.mk [46, 101, 69])) := fun j b h => by
  have hm : b ∈ [46, 101, 69] := List.mem_of_getElem? h
  simp at hm
  rcases hm with rfl | rfl | rfl <;> decide
theorem asc_body {t : ByteArray} (h : num (bts t) = ((bts t).length, true)) : asciiB (tB (body (bts t))) := fun j b hj => by
  rw [tB_data] at hj
  unfold body at hj
  rw [List.getElem?_drop] at hj
  exact asc_num h _ _ (List.getElem?_eq_some_iff.1 hj).1 hj
theorem cNum_ok {W : World} (F : HP) (hF : OldOK W F) : C1OK Tryd.prog F fNum cNum :=
  mkC_ok hF (fun s => numV (num (bts s))) (fun args => by
    unfold gS1
    split
    · exact RO.ret _
    · exact RO.fail _) (fun _ => rfl) (fun s hs => Num_tri s hs) fun s => ⟨rfl, rfl, ⟨trivial, trivial⟩, all_nil, ⟨⟨trivial, trivial, trivial⟩, trivial⟩, all_nil⟩
theorem conI_ok {W : World} (v : Int) (t : ByteArray) (ht : t.size ≤ 4611686018427387904) (h : Lib.atoiAll t.data.toList = .ok v) (F : HP) (hF : OldOK W F) : ∀ x ∈ conI v t, C1OK Tryd.prog F x.1 x.2 :=
  con_cons (cTPre_ok hF) (con_cons (cNum_ok F hF) (con_cons (cCAny_ok hF) (one_c (cAtoi_ok hF t ht v h))))
theorem conI0_ok {W : World} (F : HP) (hF : OldOK W F) : ∀ x ∈ conI0, C1OK Tryd.prog F x.1 x.2 :=
  con_cons (cTPre_ok hF) (con_cons (cNum_ok F hF) (one_c (cCAny_ok hF)))
theorem Int_tri {W : World} (r : Rj) (hs : r.t.size ≤ 4611686018427387904) : Tri Tryd.prog W fInt [aggJ r] [] (intR r.k (bts r.t)) [] := by
  have hf : Few r.t.size := by unfold Few; omega
  have hp := pre_body r.t
  have hbl : (body (bts r.t)).length ≤ r.t.size := by
    obtain ⟨n, _, h1, _, h2⟩ := bodyAt (bts r.t)
    rw [h2, bts_len]; omega
  have hpl : (preB r.t (ByteArray.mk (Array.mk [45]))).size = (body (bts r.t)).length := by rw [hp, tB_size]
  cases hk : r.k != Int.ofNat 3 with
  | true =>
    refine tri_run (con := conI0) (hints := hI true false false false false) (lc := []) [] rfl (fun F hF => conI0_ok F hF) (fun F _ => noL) fun F => ?_
    refine cast (congrArg (VAll _) (oI1_eq W r F).symm) ⟨⟨?_, (fit_mk (vs' := [intR r.k (bts r.t)]) (H' := []) [] rfl rfl (int_no (no_k hk)) trivial).fits rfl⟩⟩
    simp only [Cnd.holds, Nat.blt_eq, true_and, and_true]
    and_intros
    all_goals first
      | exact wk_litE hk
      | exact hf
      | (with_reducible exact trivial)
      | (with_reducible exact rfl)
      | (with_reducible exact Wk.refl _)
      | (with_reducible exact VW.refl _)
      | (with_reducible exact OW.refl _)
      | (with_reducible exact wk_lit _)
      | (with_reducible assumption)
      | exact rfl
      | exact Wk.refl _
      | exact VW.refl _
      | exact OW.refl _
      | ((repeat (first | exact VW.nil | refine VW.cons (Wk.refl _) ?_ | refine VW.cons (Wk.any _) ?_ | refine VW.cons (wk_cap (Nat.le_refl _)) ?_)); done)
  | false =>
    cases hok : (num (bts r.t)).2 with
    | false =>
      have hno : intOK (body (bts r.t)) = false := by
        cases h : intOK (body (bts r.t)) with
        | false => rfl
        | true => rw [(num_int (int_noDots h)).2 h] at hok; cases hok
      refine tri_run (con := conI0) (hints := hI false true false false false) (lc := []) [] rfl (fun F hF => conI0_ok F hF) (fun F _ => noL) fun F => ?_
      refine cast (congrArg (VAll _) (oI2_eq W r F).symm) ⟨⟨?_, (fit_mk (vs' := [intR r.k (bts r.t)]) (H' := []) [] rfl rfl (int_no (no_ok hno)) trivial).fits rfl⟩⟩
      have hok' : (!(num (bts r.t)).2) = true := by rw [hok]; rfl
      simp only [Cnd.holds, Nat.blt_eq, true_and, and_true]
      and_intros
      all_goals first
        | exact wk_litE hk
        | exact hf
        | exact wk_litE hok'
        | (with_reducible exact trivial)
        | (with_reducible exact rfl)
        | (with_reducible exact Wk.refl _)
        | (with_reducible exact VW.refl _)
        | (with_reducible exact OW.refl _)
        | (with_reducible exact wk_lit _)
        | (with_reducible assumption)
        | exact rfl
        | exact Wk.refl _
        | exact VW.refl _
        | exact OW.refl _
        | ((repeat (first | exact VW.nil | refine VW.cons (Wk.refl _) ?_ | refine VW.cons (Wk.any _) ?_ | refine VW.cons (wk_cap (Nat.le_refl _)) ?_)); done)
    | true =>
      have hok' : (!(num (bts r.t)).2) = false := by rw [hok]; rfl
      by_cases hn : (num (bts r.t)).1 = r.t.size
      · have hn' : (Int.ofNat (num (bts r.t)).1 != (r.t.size : Int)) = false := by rw [hn]; exact bne_self_eq_false _
        have hnum : num (bts r.t) = ((bts r.t).length, true) := Prod.ext hn hok
        by_cases hl : 18 < (body (bts r.t)).length
        · have hl' : decide (((preB r.t (ByteArray.mk (Array.mk [45]))).size : Int) > Int.ofNat 18) = true := decide_eq_true (by rw [hpl]; simp only [Int.ofNat_eq_natCast, gt_iff_lt]; omega)
          refine tri_run (con := conI0) (hints := hI false false false true false) (lc := []) [] rfl (fun F hF => conI0_ok F hF) (fun F _ => noL) fun F => ?_
          refine cast (congrArg (VAll _) (oI4_eq W r F).symm) ⟨⟨?_, (fit_mk (vs' := [intR r.k (bts r.t)]) (H' := []) [] rfl rfl (int_no (no_len hl)) trivial).fits rfl⟩⟩
          simp only [Cnd.holds, Nat.blt_eq, true_and, and_true]
          and_intros
          all_goals first
            | exact wk_litE hk
            | exact hf
            | exact wk_litE hok'
            | exact wk_litE hn'
            | exact wk_litE hl'
            | (with_reducible exact trivial)
            | (with_reducible exact rfl)
            | (with_reducible exact Wk.refl _)
            | (with_reducible exact VW.refl _)
            | (with_reducible exact OW.refl _)
            | (with_reducible exact wk_lit _)
            | (with_reducible assumption)
            | exact rfl
            | exact Wk.refl _
            | exact VW.refl _
            | exact OW.refl _
            | ((repeat (first | exact VW.nil | refine VW.cons (Wk.refl _) ?_ | refine VW.cons (Wk.any _) ?_ | refine VW.cons (wk_cap (Nat.le_refl _)) ?_)); done)
        · have hl' : decide (((preB r.t (ByteArray.mk (Array.mk [45]))).size : Int) > Int.ofNat 18) = false := decide_eq_false (by rw [hpl]; simp only [Int.ofNat_eq_natCast, gt_iff_lt]; omega)
          have hpre : (preB r.t (ByteArray.mk (Array.mk [45]))).size < 4294967281 := by rw [hpl]; omega
          have has : asciiB (preB r.t (ByteArray.mk (Array.mk [45]))) := by rw [hp]; exact asc_body hnum
          have hany : anyB (preB r.t (ByteArray.mk (Array.mk [45]))) (ByteArray.mk (Array.mk [46, 101, 69])) = !noDots (body (bts r.t)) := by rw [hp, any_dots]
          cases hd : noDots (body (bts r.t)) with
          | false =>
            rw [hd] at hany
            have hno : intOK (body (bts r.t)) = false := by
              cases h : intOK (body (bts r.t)) with
              | false => rfl
              | true => rw [int_noDots h] at hd; cases hd
            refine tri_run (con := conI0) (hints := hI false false false false true) (lc := []) [] rfl (fun F hF => conI0_ok F hF) (fun F _ => noL) fun F => ?_
            refine cast (congrArg (VAll _) (oI5_eq W r F).symm) ⟨⟨?_, (fit_mk (vs' := [intR r.k (bts r.t)]) (H' := []) [] rfl rfl (int_no (no_ok hno)) trivial).fits rfl⟩⟩
            simp only [Cnd.holds, Nat.blt_eq, true_and, and_true]
            and_intros
            all_goals first
              | exact wk_litE hk
              | exact hf
              | exact wk_litE hok'
              | exact wk_litE hn'
              | exact wk_litE hl'
              | exact hpre
              | exact has
              | exact asc3
              | decide
              | exact wk_litE hany
              | (with_reducible exact trivial)
              | (with_reducible exact rfl)
              | (with_reducible exact Wk.refl _)
              | (with_reducible exact VW.refl _)
              | (with_reducible exact OW.refl _)
              | (with_reducible exact wk_lit _)
              | (with_reducible assumption)
              | exact rfl
              | exact Wk.refl _
              | exact VW.refl _
              | exact OW.refl _
              | ((repeat (first | exact VW.nil | refine VW.cons (Wk.refl _) ?_ | refine VW.cons (Wk.any _) ?_ | refine VW.cons (wk_cap (Nat.le_refl _)) ?_)); done)
          | true =>
            rw [hd] at hany
            have hio := (num_int hd).1 hnum
            have hat := atoi_int hio (by omega)
            refine tri_run (con := conI (ival (bts r.t)) r.t) (hints := hI false false false false false) (lc := []) [] rfl (fun F hF => conI_ok _ _ hs hat F hF) (fun F _ => noL) fun F => ?_
            refine cast (congrArg (VAll _) (oI6_eq W (ival (bts r.t)) r F).symm) ⟨⟨?_, (fit_mk (vs' := [intR r.k (bts r.t)]) (H' := []) [] rfl rfl (int_yes (yes_int hk hio (by omega)) rfl) trivial).fits rfl⟩⟩
            simp only [Cnd.holds, Nat.blt_eq, true_and, and_true]
            and_intros
            all_goals first
              | exact wk_litE hk
              | exact hf
              | exact wk_litE hok'
              | exact wk_litE hn'
              | exact wk_litE hl'
              | exact hpre
              | exact has
              | exact asc3
              | decide
              | exact wk_litE hany
              | (with_reducible exact trivial)
              | (with_reducible exact rfl)
              | (with_reducible exact Wk.refl _)
              | (with_reducible exact VW.refl _)
              | (with_reducible exact OW.refl _)
              | (with_reducible exact wk_lit _)
              | (with_reducible assumption)
              | exact rfl
              | exact Wk.refl _
              | exact VW.refl _
              | exact OW.refl _
              | ((repeat (first | exact VW.nil | refine VW.cons (Wk.refl _) ?_ | refine VW.cons (Wk.any _) ?_ | refine VW.cons (wk_cap (Nat.le_refl _)) ?_)); done)
      · have hn' : (Int.ofNat (num (bts r.t)).1 != (r.t.size : Int)) = true := by
          rw [bne_iff_ne]
          simp only [Int.ofNat_eq_natCast, ne_eq, Int.natCast_inj]
          exact hn
        have hno : intOK (body (bts r.t)) = false := by
          cases h : intOK (body (bts r.t)) with
          | false => rfl
          | true => rw [(num_int (int_noDots h)).2 h] at hn; exact absurd rfl hn
        refine tri_run (con := conI0) (hints := hI false false true false false) (lc := []) [] rfl (fun F hF => conI0_ok F hF) (fun F _ => noL) fun F => ?_
        refine cast (congrArg (VAll _) (oI3_eq W r F).symm) ⟨⟨?_, (fit_mk (vs' := [intR r.k (bts r.t)]) (H' := []) [] rfl rfl (int_no (no_ok hno)) trivial).fits rfl⟩⟩
        simp only [Cnd.holds, Nat.blt_eq, true_and, and_true]
        and_intros
        all_goals first
          | exact wk_litE hk
          | exact hf
          | exact wk_litE hok'
          | exact wk_litE hn'
          | (with_reducible exact trivial)
          | (with_reducible exact rfl)
          | (with_reducible exact Wk.refl _)
          | (with_reducible exact VW.refl _)
          | (with_reducible exact OW.refl _)
          | (with_reducible exact wk_lit _)
          | (with_reducible assumption)
          | exact rfl
          | exact Wk.refl _
          | exact VW.refl _
          | exact OW.refl _
          | ((repeat (first | exact VW.nil | refine VW.cons (Wk.refl _) ?_ | refine VW.cons (Wk.any _) ?_ | refine VW.cons (wk_cap (Nat.le_refl _)) ?_)); done)
end Go.Proofs.YtdphpillcaajpaaDoor.Js

/- Json: whole numbers: the document's. -/
set_option linter.unusedVariables false
set_option linter.unusedSimpArgs false
set_option maxRecDepth 100000
namespace Go.Proofs.YtdphpillcaajpaaDoor.Js
open Go Go.RowKit Go.Proofs.YtdphpillcaajpaaDoor.Eng Go.Proofs.YtdphpillcaajpaaDoor.Kit
theorem by_wk {s : ByteArray} {n : Nat} {x : UInt8} (hx : (bts s).getD n 0 = x) : Wk (AV.v (.int .u8 (s.data.toList.getD n 0).toNat)) (byv x) := by rw [show s.data.toList.getD n 0 = x from hx]; exact Wk.refl _
theorem RDg_tri {W : World} (s : ByteArray) (n : Nat) : Tri Tryd.prog default fRDg [sv s, iv (Int.ofNat n)] [] (bv (digAt (bts s) n)) [] := by
  by_cases h1 : n < s.size
  · obtain ⟨x, hx⟩ : ∃ x, (bts s).getD n 0 = x := ⟨_, rfl⟩
    have hg := bts_get h1
    rw [hx] at hg
    have hby := by_wk hx
    have e1 := ltTC h1
    have hv : digAt (bts s) n = isD x := by unfold digAt; rw [hg]
    rw [hv]
    unfold isD
    by_cases hlo : 48 ≤ x.toNat
    · by_cases hhi : x.toNat ≤ 57
      · rw [decide_eq_true hlo, decide_eq_true hhi]
        refine tri_run (con := []) (hints := hRd x true true true) (lc := []) [] rfl (fun F _ => noC) (fun F _ => noL) fun F => ?_
        refine cast (congrArg (VAll _) (oRdY_eq s x n F).symm) ⟨⟨?_, (fit_mk (vs' := [bv true]) (H' := []) [] rfl rfl (VW.refl _) trivial).fits rfl⟩⟩
        simp only [Cnd.holds, Nat.blt_eq, true_and, and_true]
        and_intros
        all_goals first
          | exact h1
          | exact wk_litE e1
          | exact hby
          | exact wk_lb rfl
          | exact wk_litE (decide_eq_true (by simp only [Int.ofNat_eq_natCast, gt_iff_lt, ge_iff_le]; omega))
          | (with_reducible exact trivial)
          | (with_reducible exact rfl)
          | (with_reducible exact Wk.refl _)
          | (with_reducible exact VW.refl _)
          | (with_reducible exact OW.refl _)
          | (with_reducible exact wk_lit _)
          | (with_reducible assumption)
          | exact rfl
          | exact Wk.refl _
          | exact VW.refl _
          | exact OW.refl _
          | ((repeat (first | exact VW.nil | refine VW.cons (Wk.refl _) ?_ | refine VW.cons (Wk.any _) ?_ | refine VW.cons (wk_cap (Nat.le_refl _)) ?_)); done)
      · rw [decide_eq_true hlo, decide_eq_false hhi]
        refine tri_run (con := []) (hints := hRd x true true false) (lc := []) [] rfl (fun F _ => noC) (fun F _ => noL) fun F => ?_
        refine cast (congrArg (VAll _) (oRdH_eq s x n F).symm) ⟨⟨?_, (fit_mk (vs' := [bv false]) (H' := []) [] rfl rfl (VW.refl _) trivial).fits rfl⟩⟩
        simp only [Cnd.holds, Nat.blt_eq, true_and, and_true]
        and_intros
        all_goals first
          | exact h1
          | exact wk_litE e1
          | exact hby
          | exact wk_lb rfl
          | exact wk_litE (decide_eq_true (by simp only [Int.ofNat_eq_natCast, gt_iff_lt, ge_iff_le]; omega))
          | exact wk_litE (decide_eq_false (by simp only [Int.ofNat_eq_natCast, gt_iff_lt, ge_iff_le]; omega))
          | (with_reducible exact trivial)
          | (with_reducible exact rfl)
          | (with_reducible exact Wk.refl _)
          | (with_reducible exact VW.refl _)
          | (with_reducible exact OW.refl _)
          | (with_reducible exact wk_lit _)
          | (with_reducible assumption)
          | exact rfl
          | exact Wk.refl _
          | exact VW.refl _
          | exact OW.refl _
          | ((repeat (first | exact VW.nil | refine VW.cons (Wk.refl _) ?_ | refine VW.cons (Wk.any _) ?_ | refine VW.cons (wk_cap (Nat.le_refl _)) ?_)); done)
    · rw [decide_eq_false hlo]
      refine tri_run (con := []) (hints := hRd x true false false) (lc := []) [] rfl (fun F _ => noC) (fun F _ => noL) fun F => ?_
      refine cast (congrArg (VAll _) (oRdL_eq s x n F).symm) ⟨⟨?_, (fit_mk (vs' := [bv false]) (H' := []) [] rfl rfl (VW.refl _) trivial).fits rfl⟩⟩
      simp only [Cnd.holds, Nat.blt_eq, true_and, and_true]
      and_intros
      all_goals first
        | exact h1
        | exact wk_litE e1
        | exact hby
        | exact wk_lb rfl
        | exact wk_litE (decide_eq_false (by simp only [Int.ofNat_eq_natCast, gt_iff_lt, ge_iff_le]; omega))
        | (with_reducible exact trivial)
        | (with_reducible exact rfl)
        | (with_reducible exact Wk.refl _)
        | (with_reducible exact VW.refl _)
        | (with_reducible exact OW.refl _)
        | (with_reducible exact wk_lit _)
        | (with_reducible assumption)
        | exact rfl
        | exact Wk.refl _
        | exact VW.refl _
        | exact OW.refl _
        | ((repeat (first | exact VW.nil | refine VW.cons (Wk.refl _) ?_ | refine VW.cons (Wk.any _) ?_ | refine VW.cons (wk_cap (Nat.le_refl _)) ?_)); done)
  · have hg : (bts s)[n]? = none := List.getElem?_eq_none (by rw [bts_len]; omega)
    have hv : digAt (bts s) n = false := by unfold digAt; rw [hg]
    rw [hv]
    have e1 : decide (Int.ofNat n < (s.size : Int)) = false := decide_eq_false (by simp only [Int.ofNat_eq_natCast]; omega)
    refine tri_run (con := []) (hints := hRd 0 false false false) (lc := []) [] rfl (fun F _ => noC) (fun F _ => noL) fun F => ?_
    refine cast (congrArg (VAll _) (oRdE_eq s n F).symm) ⟨⟨?_, (fit_mk (vs' := [bv false]) (H' := []) [] rfl rfl (VW.refl _) trivial).fits rfl⟩⟩
    simp only [Cnd.holds, Nat.blt_eq, true_and, and_true]
    and_intros
    all_goals first
      | exact wk_litE e1
      | exact wk_lb rfl
      | (with_reducible exact trivial)
      | (with_reducible exact rfl)
      | (with_reducible exact Wk.refl _)
      | (with_reducible exact VW.refl _)
      | (with_reducible exact OW.refl _)
      | (with_reducible exact wk_lit _)
      | (with_reducible assumption)
      | exact rfl
      | exact Wk.refl _
      | exact VW.refl _
      | exact OW.refl _
      | ((repeat (first | exact VW.nil | refine VW.cons (Wk.refl _) ?_ | refine VW.cons (Wk.any _) ?_ | refine VW.cons (wk_cap (Nat.le_refl _)) ?_)); done)
theorem gSN_ro (args : List AV) : RO (gSN args) := by
  unfold gSN
  split
  · split
    · exact RO.ret _
    · exact RO.fail _
  · exact RO.fail _
theorem cRDg_ok {W : World} (F : HP) (hF : OldOK W F) : C1OK Tryd.prog F fRDg cRDg :=
  mkC_ok (OldOK.nothing F) (fun p => bv (digAt (bts p.1) p.2)) gSN_ro (fun _ => rfl) (fun p hp => RDg_tri (W := W) p.1 p.2) fun p => ⟨rfl, rfl, ⟨trivial, trivial, trivial⟩, all_nil, ⟨trivial, trivial⟩, all_nil⟩
theorem ds_loop (s : ByteArray) (hs : Few s.size) (m e : Nat) (hm : m ≤ s.size) (he : digE (bts s) m = e) : LTri Tryd.prog default (loopN fRDgs 1) (tms 0 11 (aDs s m)) [] (.exit 0) (tms 0 11 (aDs s e)) [] := by
  refine ltri_run (W := default) (g := fRDgs) (b := loopN fRDgs 1) (σ := {i : Nat // i ≤ s.size ∧ digE (bts s) i = e}) 11 (fun i => aDs s i.1) (fun i => []) (.exit 0) (aDs s e) [] (fun i => s.size - i.1) [] [0, 1] (by intro h; cases h) (fun _ => rfl) rfl ?_ ⟨m, hm, he⟩
  rintro ⟨i, hi, hE⟩
  simp only
  cases hd : digAt (bts s) i with
  | true =>
    obtain ⟨c, hc, hcd⟩ : ∃ c, (bts s)[i]? = some c ∧ isD c = true := by
      unfold digAt at hd
      split at hd
      · rename_i c hc; exact ⟨c, hc, hd⟩
      · cases hd
    have h1 : i < s.size := (List.getElem?_eq_some_iff.1 hc).1
    rw [digE_step hc hcd] at hE
    have hw := few_wrap hs h1
    refine ⟨[(fRDg, cRDg)], hDs true i, [], fun F hF => one_c (cRDg_ok F hF), fun _ _ => noL, fun F => ?_⟩
    refine cast (congrArg (VAll _) (oDsN_eq s i F).symm) ⟨⟨?_, rfl, .inl ⟨rfl, ⟨i + 1, h1, hE⟩, sub_down h1, [], rfl, rfl, ⟨Wk.refl _, Wk.refl _, trivial⟩, trivial⟩⟩⟩
    simp only [Cnd.holds, Nat.blt_eq, true_and, and_true]
    and_intros
    all_goals first
      | (with_reducible exact wk_int hw)
      | exact hi
      | exact wk_litE hd
      | (with_reducible exact trivial)
      | (with_reducible exact rfl)
      | (with_reducible exact Wk.refl _)
      | (with_reducible exact VW.refl _)
      | (with_reducible exact OW.refl _)
      | (with_reducible exact wk_lit _)
      | (with_reducible assumption)
      | exact rfl
      | exact Wk.refl _
      | exact VW.refl _
      | exact OW.refl _
      | ((repeat (first | exact VW.nil | refine VW.cons (Wk.refl _) ?_ | refine VW.cons (Wk.any _) ?_ | refine VW.cons (wk_cap (Nat.le_refl _)) ?_)); done)
  | false =>
    have hE2 : i = e := by
      by_cases h1 : i < s.size
      · have hg := bts_get h1
        have hdf : isD ((bts s).getD i 0) = false := by
          unfold digAt at hd
          rw [hg] at hd
          exact hd
        rw [digE_stop hg hdf] at hE
        exact hE
      · rw [digE_end (show (bts s).length ≤ i by rw [bts_len]; omega)] at hE
        exact hE
    subst hE2
    refine ⟨[(fRDg, cRDg)], hDs false i, [], fun F hF => one_c (cRDg_ok F hF), fun _ _ => noL, fun F => ?_⟩
    refine cast (congrArg (VAll _) (oDsE_eq s i F).symm) ⟨⟨?_, rfl, .inr ⟨rfl, [], rfl, rfl, ⟨Wk.refl _, Wk.refl _, trivial⟩, trivial⟩⟩⟩
    simp only [Cnd.holds, Nat.blt_eq, true_and, and_true]
    and_intros
    all_goals first
      | exact hi
      | exact wk_litE hd
      | (with_reducible exact trivial)
      | (with_reducible exact rfl)
      | (with_reducible exact Wk.refl _)
      | (with_reducible exact VW.refl _)
      | (with_reducible exact OW.refl _)
      | (with_reducible exact wk_lit _)
      | (with_reducible assumption)
      | exact rfl
      | exact Wk.refl _
      | exact VW.refl _
      | exact OW.refl _
      | ((repeat (first | exact VW.nil | refine VW.cons (Wk.refl _) ?_ | refine VW.cons (Wk.any _) ?_ | refine VW.cons (wk_cap (Nat.le_refl _)) ?_)); done)
theorem RDgs_tri (s : ByteArray) (hs : Few s.size) (m : Nat) (hm : m ≤ s.size) : Tri Tryd.prog default fRDgs [sv s, iv (Int.ofNat m)] [] (iv (Int.ofNat (digE (bts s) m))) [] := by
  obtain ⟨e, he⟩ : ∃ e, digE (bts s) m = e := ⟨_, rfl⟩
  rw [he]
  have hl : ∀ F, OldOK default F → L1OK Tryd.prog F (loopN fRDgs 1) (lDs s m e) := fun F hF =>
    mkL_ok hF (fun _ => RO.ret _) (fun _ _ => ds_loop s hs m e hm he) fun _ => by
      simp only [RT.pick]
      exact closedT rfl rfl (all_cons trivial (all_cons trivial all_nil)) all_nil (all_cons trivial (all_cons trivial all_nil)) all_nil
  refine tri_run (con := []) (hints := noHints) (lc := [(fRDgs, 1, loopN fRDgs 1, lDs s m e)]) [] rfl (fun F _ => noC) (fun F hF => one_l (hl F hF)) fun F => ?_
  refine cast (congrArg (VAll _) (oDs_eq s m e F).symm) ⟨⟨?_, (fit_mk (vs' := [iv (Int.ofNat e)]) (H' := []) [] rfl rfl (VW.refl _) trivial).fits rfl⟩⟩
  simp only [Cnd.holds, Nat.blt_eq, true_and, and_true]
  and_intros
  all_goals first
    | (with_reducible exact trivial)
    | (with_reducible exact rfl)
    | (with_reducible exact Wk.refl _)
    | (with_reducible exact VW.refl _)
    | (with_reducible exact OW.refl _)
    | (with_reducible exact wk_lit _)
    | (with_reducible assumption)
    | exact rfl
    | exact Wk.refl _
    | exact VW.refl _
    | exact OW.refl _
    | ((repeat (first | exact VW.nil | refine VW.cons (Wk.refl _) ?_ | refine VW.cons (Wk.any _) ?_ | refine VW.cons (wk_cap (Nat.le_refl _)) ?_)); done)
theorem cRDgs_ok {W : World} (F : HP) (hF : OldOK W F) : C1OK Tryd.prog F fRDgs cRDgs :=
  mkC_ok (OldOK.nothing F) (fun p => iv (Int.ofNat (digE (bts p.1) p.2))) gSN_ro (fun _ => rfl) (fun p hp => RDgs_tri p.1 hp.2 p.2 hp.1) fun p => ⟨rfl, rfl, ⟨trivial, trivial, trivial⟩, all_nil, ⟨trivial, trivial⟩, all_nil⟩
/-! The value. -/
theorem dval_lt {l : List UInt8} (h : l.all isD = true) (h18 : l.length ≤ 18) : dval 0 l < 1000000000000000000 := by
  have := Lib.decFrom_lt l 0 _ (decFrom_all l 0 h)
  have hp : 10 ^ l.length ≤ 10 ^ 18 := Nat.pow_le_pow_right (by decide) h18
  have e18 : (10 : Nat) ^ 18 = 1000000000000000000 := by decide
  omega
theorem i64_ok {z : Int} (h0 : -9000000000000000000 ≤ z) (h1 : z ≤ 9000000000000000000) : IntKind.i64.wrap z = z := IntWalk.i64_in _ (by omega)
theorem ri_loop (s : ByteArray) (f : Bool) (h18 : s.size ≤ 18) (hd : (bts s).all isD = true) : LTri Tryd.prog default (loopN fRInt 8) (tms 0 68 (aRI s f 0 0)) [] (.exit 0) (tms 0 68 [(5, bv f), (6, iv (Int.ofNat (dval 0 (bts s))))]) [] := by
  refine ltri_run (W := default) (g := fRInt) (b := loopN fRInt 8) (σ := {i : Nat // i ≤ s.size}) 68 (fun i => aRI s f (dval 0 ((bts s).take i.1)) i.1) (fun i => []) (.exit 0) [(5, bv f), (6, iv (Int.ofNat (dval 0 (bts s))))] [] (fun i => s.size - i.1) [] [4, 5, 6, 7] (by intro h; cases h) (fun _ => rfl) rfl ?_ ⟨0, Nat.zero_le _⟩
  rintro ⟨i, hi⟩
  simp only
  by_cases h1 : i < s.size
  · obtain ⟨x, hx⟩ : ∃ x, (bts s).getD i 0 = x := ⟨_, rfl⟩
    have hg := bts_get h1
    rw [hx] at hg
    have hby := by_wk hx
    have e1 := ltTC h1
    have hw : IntKind.i64.wrap (Int.ofNat i + Int.ofNat 1) = Int.ofNat (i + 1) := wrap_succ i (by omega)
    have hxd : isD x = true := List.all_eq_true.1 hd x (List.mem_of_getElem? hg)
    have h48 := (isD_iff x).1 hxd
    obtain ⟨acc, hacc⟩ : ∃ acc, dval 0 ((bts s).take i) = acc := ⟨_, rfl⟩
    obtain ⟨acc2, hacc2⟩ : ∃ acc, dval 0 ((bts s).take (i + 1)) = acc := ⟨_, rfl⟩
    have ht : ((bts s).take (i + 1)).all isD = true := List.all_eq_true.2 fun c hc => List.all_eq_true.1 hd c (List.mem_of_mem_take hc)
    have hlt := dval_lt ht (by rw [List.length_take, bts_len]; omega)
    rw [hacc2] at hlt
    have hstep : acc2 = acc * 10 + (x.toNat - 48) := by
      rw [← hacc2, List.take_add_one, hg, dval_append, hacc]
      rfl
    have w1 : IntKind.i64.wrap (Int.ofNat acc * Int.ofNat 10) = Int.ofNat (acc * 10) := by rw [i64_ok] <;> simp only [Int.ofNat_eq_natCast] <;> omega
    have w2 : IntKind.u8.wrap ((x.toNat : Int) - Int.ofNat 48) = Int.ofNat (x.toNat - 48) := by rw [IntWalk.u8_in _ (by simp only [Int.ofNat_eq_natCast]; omega)]; simp only [Int.ofNat_eq_natCast]; omega
    have w3 : IntKind.i64.wrap (Int.ofNat (x.toNat - 48)) = Int.ofNat (x.toNat - 48) := i64_ok (by simp only [Int.ofNat_eq_natCast]; omega) (by simp only [Int.ofNat_eq_natCast]; omega)
    have w4 : IntKind.i64.wrap (Int.ofNat (acc * 10) + Int.ofNat (x.toNat - 48)) = Int.ofNat acc2 := by rw [i64_ok] <;> simp only [Int.ofNat_eq_natCast] <;> omega
    rw [hacc]
    refine ⟨[], hRi x (acc * 10) (x.toNat - 48) 0 acc2 i, [], fun F hF => noC, fun _ _ => noL, fun F => ?_⟩
    refine cast (congrArg (VAll _) (oRiN_eq s f x acc (acc * 10) (x.toNat - 48) acc2 i F).symm) ⟨⟨?_, rfl, .inl ⟨rfl, ⟨i + 1, h1⟩, sub_down h1, [], rfl, rfl, ⟨Wk.refl _, Wk.refl _, Wk.of_eq (by rw [hacc2]; rfl), Wk.refl _, trivial⟩, trivial⟩⟩⟩
    simp only [Cnd.holds, Nat.blt_eq, true_and, and_true]
    and_intros
    all_goals first
      | exact h1
      | (with_reducible exact wk_int hw)
      | (with_reducible exact wk_int w1)
      | (with_reducible exact wk_int w3)
      | (with_reducible exact wk_int w4)
      | exact wk_u8 w2
      | exact wk_litE e1
      | exact hby
      | (with_reducible exact trivial)
      | (with_reducible exact rfl)
      | (with_reducible exact Wk.refl _)
      | (with_reducible exact VW.refl _)
      | (with_reducible exact OW.refl _)
      | (with_reducible exact wk_lit _)
      | (with_reducible assumption)
      | exact rfl
      | exact Wk.refl _
      | exact VW.refl _
      | exact OW.refl _
      | ((repeat (first | exact VW.nil | refine VW.cons (Wk.refl _) ?_ | refine VW.cons (Wk.any _) ?_ | refine VW.cons (wk_cap (Nat.le_refl _)) ?_)); done)
  · have hie : i = s.size := by omega
    subst hie
    have ht : (bts s).take s.size = bts s := List.take_of_length_le (by rw [bts_len]; exact Nat.le_refl _)
    rw [ht]
    refine ⟨[], hintL [(fRInt, 8, 3, hv (.lit false))], [], fun F hF => noC, fun _ _ => noL, fun F => ?_⟩
    refine cast (congrArg (VAll _) (oRiE_eq s f (dval 0 (bts s)) s.size F).symm) ⟨⟨?_, rfl, .inr ⟨rfl, [], rfl, rfl, ⟨Wk.refl _, Wk.refl _, trivial⟩, trivial⟩⟩⟩
    simp only [Cnd.holds, Nat.blt_eq, true_and, and_true]
    and_intros
    all_goals first
      | exact wk_litE ltFC
      | (with_reducible exact trivial)
      | (with_reducible exact rfl)
      | (with_reducible exact Wk.refl _)
      | (with_reducible exact VW.refl _)
      | (with_reducible exact OW.refl _)
      | (with_reducible exact wk_lit _)
      | (with_reducible assumption)
      | exact rfl
      | exact Wk.refl _
      | exact VW.refl _
      | exact OW.refl _
      | ((repeat (first | exact VW.nil | refine VW.cons (Wk.refl _) ?_ | refine VW.cons (Wk.any _) ?_ | refine VW.cons (wk_cap (Nat.le_refl _)) ?_)); done)
theorem lRI_ok {W : World} (F : HP) (hF : OldOK W F) : L1OK Tryd.prog F (loopN fRInt 8) lRI :=
  mkL_ok (OldOK.nothing F) (fun tmps => by
    unfold gRI
    split
    · split
      · exact RO.ret _
      · exact RO.fail _
    · exact RO.fail _) (fun p hp => ri_loop p.1 p.2 hp.1 hp.2) fun p => by
      simp only [RT.pick]
      exact closedT rfl rfl (all_cons trivial (all_cons trivial (all_cons trivial (all_cons trivial all_nil)))) all_nil (all_cons trivial (all_cons trivial all_nil)) all_nil
end Go.Proofs.YtdphpillcaajpaaDoor.Js

