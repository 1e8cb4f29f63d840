/- What runs over the program are told with: hints, loops, closings. -/
import Derived.Test.YtdphpillcaajpaaDoorEngCon
import Derived.Test.YtdphpillcaajpaaDoorEngRow
import Derived.Test.YtdphpillcaajpaaDoorEngIMap
import Derived.Test.YtdphpillcaajpaaDoorEngClosed
import Derived.Test.YtdphpillcaajpaaDoorProg
import Derived.KernelRfl
import Derived.IntWalk
set_option linter.unusedVariables false
set_option linter.unusedSimpArgs false
set_option maxRecDepth 100000
namespace Go.Proofs.YtdphpillcaajpaaDoor.Kit
open Go Go.RowKit Go.Proofs.YtdphpillcaajpaaDoor.Eng
abbrev ConsL := List (FuncId × (List AV → Option (AP AV)))
abbrev LcL := List (FuncId × Nat × Code × (List AV → AP (AX × List AV)))
def iv (n : Int) : AV := .v (.int .i64 n)
def bv (b : Bool) : AV := .v (.bool b)
def sv (s : ByteArray) : AV := .v (.string s)
def slV (oa : Option Addr) (n c : Nat) : AV := .v (.slice oa n c)
noncomputable section
def noHints : ClaimT := fun _ _ _ => none
def hintL : List (FuncId × Nat × Nat × Hint) → ClaimT
  | [], _, _, _ => none
  | x :: l, f, r, o => match Nat.beq f x.1 && (Nat.beq r x.2.1 && Nat.beq o x.2.2.1) with
    | true => some x.2.2.2
    | false => hintL l f r o
def hv (v : AV) : Hint := ⟨some v, none, [], .no⟩
def ho (k : Nat) (o : AO) : Hint := ⟨none, none, [(k, o)], .no⟩
def hp (j : Nat) : Hint := ⟨none, some j, [], .no⟩
def h0 : Hint := ⟨none, none, [], .yes⟩
def h0v (v : AV) : Hint := ⟨some v, none, [], .yes⟩
def hf (y : Value) : Hint := ⟨none, none, [], .fact y⟩
def hw (o' : AO) : Hint := ⟨none, none, [], .wr o'⟩
def hn : Hint := ⟨none, none, [], .force⟩
def ht (s : ByteArray) : Hint := ⟨none, none, [], .txt s⟩
def envW (con : ConsL) (hints : ClaimT) (lc : LcL) (W : World) (F : HP) : Env := envO Tryd.prog F (conL con) hints (lconL lc) W
def wRun (con : ConsL) (hints : ClaimT) (lc : LcL) (W : World) (f : FuncId) (A : List AV) (H : LH) (ks : List Nat) (F : HP) : VT AV := ((runCall Tryd.prog (envW con hints lc W F) 1000 f A).run2 (heapOf H) 1100 []).view ks
def wLoop (con : ConsL) (hints : ClaimT) (lc : LcL) (W : World) (g : FuncId) (b : Code) (A : List AV) (H : LH) (ks idx : List Nat) (F : HP) : VT (AX × List AV × Nat) := (((runCode Tryd.prog (envW con hints lc W F) 1000 g b A).run2 (heapOf H) 1100 []).view ks).map (seenT idx)
def loopAt (r : Nat) : Code → Option Code
  | .loop b => match firstReg b with
    | some i => match Nat.beq i r with
      | true => some b
      | false => loopAt r b
    | none => loopAt r b
  | .seq a b => match loopAt r a with | some c => some c | none => loopAt r b
  | .cond _ a b => match loopAt r a with | some c => some c | none => loopAt r b
  | .block _ b | .scope b => loopAt r b
  | _ => none
def loopN (f : FuncId) (r : Nat) : Code := ((Tryd.prog.funcs[f]?).bind fun fn => fn.body.bind (loopAt r)).getD .skip
theorem mixed : Tryd.prog.follows .mixedOrders = true := by kernel_rfl
theorem tri_run {con : ConsL} {hints : ClaimT} {lc : LcL} {W : World} {f : FuncId} {A : List AV} {H H' : LH} {v : AV} (ks : List Nat) (hH : namesLt 1100 H = true)
    (hcon : ∀ F, OldOK W F → ∀ x ∈ con, C1OK Tryd.prog F x.1 x.2) (hl : ∀ F, OldOK W F → ∀ x ∈ lc, L1OK Tryd.prog F x.2.2.1 x.2.2.2) (h : ∀ F, VAll (fun u os _ => Fits ks [u] os [v] H') (wRun con hints lc W f A H ks F)) : Tri Tryd.prog W f A H v H' :=
  tri_V ks 1000 mixed hH (fun F hF => conL_ok rfl (hcon F hF)) (fun F hF => lconL_ok rfl (hl F hF)) fun F _ => h F
theorem ltri_run {W : World} {g : FuncId} {b : Code} {σ : Type} (m : Nat) (A : σ → List (Nat × AV)) (H : σ → LH) (ax : AX) (Z : List (Nat × AV)) (HZ : LH) (μ : σ → Nat) (ks idx : List Nat) (hax : ax ≠ .normal) (hH : ∀ s, namesLt 1100 (H s) = true) (hZ : namesLt 1100 HZ = true)
    (hstep : ∀ s, ∃ (con : ConsL) (hints : ClaimT) (lc : LcL), (∀ F, OldOK W F → ∀ x ∈ con, C1OK Tryd.prog F x.1 x.2) ∧ (∀ F, OldOK W F → ∀ x ∈ lc, L1OK Tryd.prog F x.2.2.1 x.2.2.2) ∧
      ∀ F, VAll (fun r os _ => r.2.2 = m ∧ ((r.1 = .normal ∧ ∃ s', μ s' < μ s ∧ ∃ l, FitT ks idx r.2.1 os (A s') (H s') l) ∨ (r.1 = ax ∧ ∃ l, FitT ks idx r.2.1 os Z HZ l))) (wLoop con hints lc W g b (tms 0 m (A s)) (H s) ks idx F)) (s : σ) :
    LTri Tryd.prog W b (tms 0 m (A s)) (H s) ax (tms 0 m Z) HZ := by
  have key := ltri_V (P := Tryd.prog) (W := W) (b := b) (g := g) (σ := σ) (con := fun s => conL (hstep s).choose) (claim := fun s => (hstep s).choose_spec.choose) (lcon := fun s => lconL (hstep s).choose_spec.choose_spec.choose) m A H ax Z HZ μ ks idx 1000 mixed hax hH hZ
    (fun s F hF => conL_ok rfl ((hstep s).choose_spec.choose_spec.choose_spec.1 F hF)) (fun s F hF => lconL_ok rfl ((hstep s).choose_spec.choose_spec.choose_spec.2.1 F hF))
  exact key (fun s F _ => (hstep s).choose_spec.choose_spec.choose_spec.2.2 F) s
end
/-! Small facts. -/
theorem sub_down {i n : Nat} (h : i < n) : n - (i + 1) < n - i := by omega
theorem nat_lt (k n : Nat) : decide (Int.ofNat k < Int.ofNat n) = decide (k < n) := by simp only [Int.ofNat_eq_natCast, Int.ofNat_lt]
theorem wrap_succ (k : Nat) (h : k < 9223372036854775807) : IntKind.i64.wrap (Int.ofNat k + Int.ofNat 1) = Int.ofNat (k + 1) := by
  rw [IntWalk.i64_in _ (by simp only [Int.ofNat_eq_natCast]; omega)]; simp only [Int.ofNat_eq_natCast]; omega
theorem wk_lit (b : Bool) : Wk (.v (.bool b)) (.lit b) := fun N y hy => VR_lit.2 (VR_v.1 hy)
theorem wk_litE {b b' : Bool} (h : b = b') : Wk (.v (.bool b)) (.lit b') := by subst h; exact wk_lit b
theorem wk_int {a b : Int} (h : a = b) : Wk (.v (.int .i64 a)) (.v (.int .i64 b)) := Wk.of_eq (by rw [h])
theorem noC {F : HP} : ∀ x ∈ ([] : ConsL), C1OK Tryd.prog F x.1 x.2 := fun x hx => by cases hx
theorem noL {F : HP} : ∀ x ∈ ([] : LcL), L1OK Tryd.prog F x.2.2.1 x.2.2.2 := fun x hx => by cases hx
theorem one_c {F : HP} {f : FuncId} {g : List AV → Option (AP AV)} (h : C1OK Tryd.prog F f g) : ∀ x ∈ ([(f, g)] : ConsL), C1OK Tryd.prog F x.1 x.2 := fun x hx => by simp only [List.mem_singleton] at hx; subst hx; exact h
theorem con_cons {F : HP} {f : FuncId} {g : List AV → Option (AP AV)} {l : ConsL} (h : C1OK Tryd.prog F f g) (hl : ∀ x ∈ l, C1OK Tryd.prog F x.1 x.2) : ∀ x ∈ (f, g) :: l, C1OK Tryd.prog F x.1 x.2 := fun x hx => by
  rcases List.mem_cons.1 hx with rfl | hx
  · exact h
  · exact hl x hx
theorem one_l {F : HP} {f : FuncId} {r : Nat} {b : Code} {g : List AV → AP (AX × List AV)} (h : L1OK Tryd.prog F b g) : ∀ x ∈ ([(f, r, b, g)] : LcL), L1OK Tryd.prog F x.2.2.1 x.2.2.2 := fun x hx => by simp only [List.mem_singleton] at hx; subst hx; exact h
theorem Tri.wk {W : World} {f : FuncId} {A : List AV} {H H' : LH} {v v' : AV} (h : Tri Tryd.prog W f A H v H') (hw : Wk v v') : Tri Tryd.prog W f A H v' H' := by
  intro W0 F N w vargs hF hNB r ha
  refine (h W0 F N w vargs hF hNB r ha).mono ?_
  rintro e w' ⟨y, rfl, N', h1, h2, h3, h4⟩
  exact ⟨y, rfl, N', h1, h2, h3, VRs_cons.2 ⟨hw _ _ (VRs_cons.1 h4).1, VRs_nil⟩⟩
theorem tri_below {W : World} {f : FuncId} {A : List AV} {H : LH} {x : Value} (h : ∀ (W0 : World) (F : HP) (N : Names) (w : World) (vargs : Array Value), OldOK W F → NB N H → Rep W0 N F (heapOf H) w → VRs N A vargs.toList → Calls Tryd.prog f vargs w fun e w' => e = .returned x ∧ Below w.heap.size w w') : Tri Tryd.prog W f A H (.v x) H := by
  intro W0 F N w vargs hF hNB r ha
  refine (h W0 F N w vargs hF hNB r ha).mono ?_
  rintro e w' ⟨rfl, hb⟩
  exact ⟨x, rfl, N, fun _ _ => rfl, hNB, r.below hb, VRs_cons.2 ⟨VR_v.2 rfl, VRs_nil⟩⟩
theorem old_here (W : World) : OldOK W (HP.old W) := by
  intro D w' hF b o hv
  have hF' : (HP.old W).on D w' := hF
  rw [hF'.2 _ (Array.getElem?_eq_some_iff.1 hv).1]
  exact hv
theorem fits_true : Fits [] [.v (.bool true)] [] [.v (.bool true)] [] := (fit_mk (vs := [.v (.bool true)]) (vs' := [.v (.bool true)]) [] rfl rfl (VW.refl _) (show ObjsOK [] [] [] [] from trivial)).fits rfl
/-! A row behind others. -/
section
variable {α : Type} {enc : α → List Value} {k : Nat}
end
end Go.Proofs.YtdphpillcaajpaaDoor.Kit
