/- What runs over the program are told with: hints, loops, closings. -/
import Derived.Test.YtdphpillcaajpaaGreatDoorEngCon
import Derived.Test.YtdphpillcaajpaaGreatDoorEngRow
import Derived.Test.YtdphpillcaajpaaGreatDoorEngIMap
import Derived.Test.YtdphpillcaajpaaGreatDoorEngClosed
import Derived.Test.YtdphpillcaajpaaGreatDoorProg
import Derived.KernelRfl
import Derived.IntWalk
set_option linter.unusedVariables false
set_option linter.unusedSimpArgs false
set_option maxRecDepth 100000
namespace Go.Proofs.YtdphpillcaajpaaGreatDoor.Kit
open Go Go.RowKit Eng
abbrev HN' := List (FuncId × (List AV → Option (AP AV)))
abbrev LcL := List (FuncId × Nat × Code × (List AV → AP (AX × List AV)))
def iv (n : Int) : AV := .v (.int .i64 n)
def bv (b : Bool) : AV := .v (.bool b)
def sv (s : ByteArray) : AV := .v (.string s)
def slV (oa : Option Addr) (n c : Nat) : AV := .v (.slice oa n c)
noncomputable section
def DL' : B8' := fun _ _ _ => none
def A9' : List (FuncId × Nat × Nat × Hint) → B8'
 | [], _, _, _ => none
 | x :: l, f, r, o => match Nat.beq f x.1 && (Nat.beq r x.2.1 && Nat.beq o x.2.2.1) with
  | true => some x.2.2.2
  | false => A9' l f r o
def hv (v : AV) : Hint := ⟨some v, none, [], .no⟩
def ho (k : Nat) (o : AO) : Hint := ⟨none, none, [(k, o)], .no⟩
def hvo (v : AV) (k : Nat) (o : AO) : Hint := ⟨some v, none, [(k, o)], .no⟩
def hp (j : Nat) : Hint := ⟨none, some j, [], .no⟩
def h0 : Hint := ⟨none, none, [], .yes⟩
def h0v (v : AV) : Hint := ⟨some v, none, [], .yes⟩
def hf (y : Value) : Hint := ⟨none, none, [], .fact y⟩
def hw (o' : AO) : Hint := ⟨none, none, [], .wr o'⟩
def hn : Hint := ⟨none, none, [], .force⟩
def ht (s : ByteArray) : Hint := ⟨none, none, [], .txt s⟩
def envW (con : HN') (hints : B8') (lc : LcL) (W : World) (F : HP) : Env := envO Tryz.prog F (conL con) hints (P4' lc) W
def wRun (con : HN') (hints : B8') (lc : LcL) (W : World) (f : FuncId) (A : List AV) (H : LH) (ks : List Nat) (F : HP) : VT AV := ((CW' Tryz.prog (envW con hints lc W F) 1000 f A).run2 (AX' H) 1100 []).view ks
def AR' (con : HN') (hints : B8') (lc : LcL) (W : World) (g : FuncId) (b : Code) (A : List AV) (H : LH) (ks idx : List Nat) (F : HP) : VT (AX × List AV × Nat) := (((C7' Tryz.prog (envW con hints lc W F) 1000 g b A).run2 (AX' H) 1100 []).view ks).map (W2' idx)
def IG' (r : Nat) : Code → Option Code
 | .loop b => match C3' b with
  | some i => match Nat.beq i r with
   | true => some b
   | false => IG' r b
  | none => IG' r b
 | .seq a b => match IG' r a with | some c => some c | none => IG' r b
 | .cond _ a b => match IG' r a with | some c => some c | none => IG' r b
 | .block _ b | .scope b => IG' r b
 | _ => none
def A2' (f : FuncId) (r : Nat) : Code := ((Tryz.prog.funcs[f]?).bind fun fn => fn.body.bind (IG' r)).getD .skip
theorem TR' : Tryz.prog.follows .mixedOrders = true := by kernel_rfl
theorem AD' {con : HN'} {hints : B8'} {lc : LcL} {W : World} {f : FuncId} {A : List AV} {H H' : LH} {v : AV} (ks : List Nat) (hH : AF' 1100 H = true)
  (hcon : ∀ F, AK' W F → ∀ x ∈ con, C1OK Tryz.prog F x.1 x.2) (hl : ∀ F, AK' W F → ∀ x ∈ lc, L1OK Tryz.prog F x.2.2.1 x.2.2.2) (h : ∀ F, VAll (fun u os _ => Fits ks [u] os [v] H') (wRun con hints lc W f A H ks F)) : Tri Tryz.prog W f A H v H' :=
 tri_V ks 1000 TR' hH (fun F hF => M0' rfl (hcon F hF)) (fun F hF => IW' rfl (hl F hF)) fun F _ => h F
theorem BW' {W : World} {g : FuncId} {b : Code} {σ : Type} (m : Nat) (A : σ → List (Nat × AV)) (H : σ → LH) (ax : AX) (Z : List (Nat × AV)) (HZ : LH) (μ : σ → Nat) (ks idx : List Nat) (hax : ax ≠ .normal) (hH : ∀ s, AF' 1100 (H s) = true) (hZ : AF' 1100 HZ = true)
  (hstep : ∀ s, ∃ (con : HN') (hints : B8') (lc : LcL), (∀ F, AK' W F → ∀ x ∈ con, C1OK Tryz.prog F x.1 x.2) ∧ (∀ F, AK' W F → ∀ x ∈ lc, L1OK Tryz.prog F x.2.2.1 x.2.2.2) ∧
   ∀ F, VAll (fun r os _ => r.2.2 = m ∧ ((r.1 = .normal ∧ ∃ s', μ s' < μ s ∧ ∃ l, FitT ks idx r.2.1 os (A s') (H s') l) ∨ (r.1 = ax ∧ ∃ l, FitT ks idx r.2.1 os Z HZ l))) (AR' con hints lc W g b (tms 0 m (A s)) (H s) ks idx F)) (s : σ) :
  LTri Tryz.prog W b (tms 0 m (A s)) (H s) ax (tms 0 m Z) HZ := by
 have key := ltri_V (P := Tryz.prog) (W := W) (b := b) (g := g) (σ := σ) (con := fun s => conL (hstep s).choose) (claim := fun s => (hstep s).choose_spec.choose) (lcon := fun s => P4' (hstep s).choose_spec.choose_spec.choose) m A H ax Z HZ μ ks idx 1000 TR' hax hH hZ
  (fun s F hF => M0' rfl ((hstep s).choose_spec.choose_spec.choose_spec.1 F hF)) (fun s F hF => IW' rfl ((hstep s).choose_spec.choose_spec.choose_spec.2.1 F hF))
 exact key (fun s F _ => (hstep s).choose_spec.choose_spec.choose_spec.2.2 F) s
end
theorem BD' {i n : Nat} (h : i < n) : n - (i + 1) < n - i := by omega
theorem IF' (k n : Nat) : decide (Int.ofNat k < Int.ofNat n) = decide (k < n) := by simp only [Int.ofNat_eq_natCast, Int.ofNat_lt]
theorem BO' (k : Nat) (h : k < 9223372036854775807) : IntKind.i64.wrap (Int.ofNat k + Int.ofNat 1) = Int.ofNat (k + 1) := by
 rw [IntWalk.i64_in _ (by simp only [Int.ofNat_eq_natCast]; omega)]; simp only [Int.ofNat_eq_natCast]; omega
theorem A4' (b : Bool) : Wk (.v (.bool b)) (.lit b) := fun N y hy => DZ'.2 (VR_v.1 hy)
theorem A0' {b b' : Bool} (h : b = b') : Wk (.v (.bool b)) (.lit b') := by subst h; exact A4' b
theorem AP' {a b : Int} (h : a = b) : Wk (.v (.int .i64 a)) (.v (.int .i64 b)) := Wk.of_eq (by rw [h])
theorem noC {F : HP} : ∀ x ∈ ([] : HN'), C1OK Tryz.prog F x.1 x.2 := fun x hx => by cases hx
theorem noL {F : HP} : ∀ x ∈ ([] : LcL), L1OK Tryz.prog F x.2.2.1 x.2.2.2 := fun x hx => by cases hx
theorem AO' {F : HP} {f : FuncId} {g : List AV → Option (AP AV)} (h : C1OK Tryz.prog F f g) : ∀ x ∈ ([(f, g)] : HN'), C1OK Tryz.prog F x.1 x.2 := fun x hx => by simp only [List.mem_singleton] at hx; subst hx; exact h
theorem AC' {F : HP} {f : FuncId} {g : List AV → Option (AP AV)} {l : HN'} (h : C1OK Tryz.prog F f g) (hl : ∀ x ∈ l, C1OK Tryz.prog F x.1 x.2) : ∀ x ∈ (f, g) :: l, C1OK Tryz.prog F x.1 x.2 := fun x hx => by
 rcases List.mem_cons.1 hx with rfl | hx
 ·exact h
 ·exact hl x hx
theorem BV' {F : HP} {f : FuncId} {r : Nat} {b : Code} {g : List AV → AP (AX × List AV)} (h : L1OK Tryz.prog F b g) : ∀ x ∈ ([(f, r, b, g)] : LcL), L1OK Tryz.prog F x.2.2.1 x.2.2.2 := fun x hx => by simp only [List.mem_singleton] at hx; subst hx; exact h
theorem Tri.wk {W : World} {f : FuncId} {A : List AV} {H H' : LH} {v v' : AV} (h : Tri Tryz.prog W f A H v H') (hw : Wk v v') : Tri Tryz.prog W f A H v' H' := by
 intro W0 F N w vargs hF hNB r ha
 refine (h W0 F N w vargs hF hNB r ha).mono ?_
 rintro e w' ⟨y, rfl, N', h1, h2, h3, h4⟩
 exact ⟨y, rfl, N', h1, h2, h3, AB'.2 ⟨hw _ _ (AB'.1 h4).1, AN'⟩⟩
theorem SL' {W : World} {f : FuncId} {A : List AV} {H : LH} {x : Value} (h : ∀ (W0 : World) (F : HP) (N : A8') (w : World) (vargs : Array Value), AK' W F → NB N H → Rep W0 N F (AX' H) w → VRs N A vargs.toList → Calls Tryz.prog f vargs w fun e w' => e = .returned x ∧ Below w.heap.size w w') : Tri Tryz.prog W f A H (.v x) H := by
 intro W0 F N w vargs hF hNB r ha
 refine (h W0 F N w vargs hF hNB r ha).mono ?_
 rintro e w' ⟨rfl, hb⟩
 exact ⟨x, rfl, N, fun _ _ => rfl, hNB, r.below hb, AB'.2 ⟨VR_v.2 rfl, AN'⟩⟩
theorem WA' (W : World) : AK' W (HP.old W) := by
 intro D w' hF b o hv
 have hF' : (HP.old W).on D w' := hF
 rw [hF'.2 _ (Array.getElem?_eq_some_iff.1 hv).1]
 exact hv
section
variable {α : Type} {enc : α → List Value} {k : Nat}
end
noncomputable section
abbrev a' : AV := AV.any
abbrev u' : AV := AV.v (Value.tuple (Array.mk []))
abbrev i' (n : Nat) : AV := AV.v (Value.int IntKind.i64 (Int.ofNat n))
abbrev z' (n : Int) : AV := AV.v (Value.int IntKind.i64 n)
abbrev s' (s : ByteArray) : AV := AV.v (Value.string s)
abbrev b' (b : Bool) : AV := AV.v (Value.bool b)
abbrev p' (q : Prop) : Cnd := Cnd.p q
abbrev t' : Cnd := Cnd.t
end
noncomputable section
abbrev e' : AV := AV.v (Value.slice none 0 0)
abbrev g' : AV := AV.lit false
abbrev j' : AV := AV.lit true
abbrev f' (q : Prop) : Cnd := (Cnd.p q).a Cnd.t
abbrev ra4 (l : List AV) : List AV := a'::a'::a'::a'::l
abbrev ra8 (l : List AV) : List AV := a'::a'::a'::a'::a'::a'::a'::a'::l
abbrev ra16 (l : List AV) : List AV := a'::a'::a'::a'::a'::a'::a'::a'::a'::a'::a'::a'::a'::a'::a'::a'::l
abbrev ru4 (l : List AV) : List AV := u'::u'::u'::u'::l
abbrev ru8 (l : List AV) : List AV := u'::u'::u'::u'::u'::u'::u'::u'::l
abbrev ru16 (l : List AV) : List AV := u'::u'::u'::u'::u'::u'::u'::u'::u'::u'::u'::u'::u'::u'::u'::u'::l
end
theorem Ya {a : AV} : Wk a a := Wk.refl a
theorem Yb {a : List AV} : VW a a := VW.refl a
theorem Yc {a : AO} : OW a a := OW.refl a
theorem Yd {a : Nat} : a ≤ a := Nat.le_refl a
theorem Ye : True := trivial
theorem Z0 {n : Nat} : Int.ofNat n = (n : Int) := rfl
theorem Z1 {α : Type _} [LT α] {a b : α} : a > b ↔ b < a := Iff.rfl
theorem Z2 {α : Type _} [LE α] {a b : α} : a ≥ b ↔ b ≤ a := Iff.rfl
instance : Std.Refl Wk := ⟨Wk.refl⟩
instance : Std.Refl VW := ⟨VW.refl⟩
instance : Std.Refl OW := ⟨OW.refl⟩
instance {α : Sort _} : Std.Refl (@Eq α) := ⟨fun _ => rfl⟩
theorem Yf {α : Sort _} {r : α → α → Prop} [h : Std.Refl r] {a : α} : r a a := h.refl a
theorem Yg {x : AV} {l m : List AV} (h : VW l m) : VW (x :: l) (x :: m) := VW.cons (Wk.refl _) h
theorem Yh {x : AV} {l m : List AV} (h : VW l m) : VW (x :: l) (.any :: m) := VW.cons (Wk.any _) h
theorem Yi {i a b s : Nat} {c : Cp} {l m : List AV} (h : VW l m) : VW (.slice i a b s c :: l) (.slice i a b s (.lo c.least) :: m) := VW.cons (G7' (Nat.le_refl _)) h
theorem Yj {α : Type} {Q : α → List (Option AO) → Nat → Prop} {a b : VT α} (h : a = b) (x : VAll Q b) : VAll Q a := cast (congrArg (VAll Q) h.symm) x
end Go.Proofs.YtdphpillcaajpaaGreatDoor.Kit
