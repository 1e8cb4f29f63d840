/- What runs over the program are told with: hints, loops, closings. -/
import Derived.Test.YtjjjchmkonnpfaaEngCon
import Derived.Test.YtjjjchmkonnpfaaEngRow
import Derived.Test.YtjjjchmkonnpfaaEngIMap
import Derived.Test.YtjjjchmkonnpfaaEngClosed
import Derived.Test.YtjjjchmkonnpfaaProg
import Derived.KernelRfl
import Derived.IntWalk
noncomputable section
set_option linter.unusedVariables false
set_option linter.unusedSimpArgs false
set_option maxRecDepth 100000
namespace Go.Proofs.Ytjjjchmkonnpfaa.Kit
open Go Go.RowKit Eng
open Int renaming ofNat -> o'
variable {p : Prop} {f : FuncId} {F : HP} {W : World} {A l m : List AV} {H : LH} {args : List Value}
abbrev KA' := List (FuncId × (List AV -> Option (AP AV)))
abbrev LcL := List (FuncId × Nat × Code × (List AV -> AP (AX × List AV)))
def iv (n : Int) : AV := .v (.int .i64 n)
def bv (b : Bool) : AV := .v (.bool b)
def sv (s : Δ) : AV := .v (.string s)
def slV (oa : Option Addr) (n c : Nat) : AV := .v (.slice oa n c)
def AF' : AO' := fun _ _ _ => none
def AN' : List (FuncId × Nat × Nat × Hint) -> AO'
 | [], _, _, _ => none
 | x :: l, f, r, o => match Nat.beq f x.1 && (Nat.beq r x.2.1 && Nat.beq o x.2.2.1) with
  | true => some x.2.2.2
  | false => AN' l f r o
def hv (v : AV) : Hint := ⟨some v, none, [], .no⟩
def ho (k : Nat) (o : AO) : Hint := ⟨none, none, [(k, o)], .no⟩
def hp (j : Nat) : Hint := ⟨none, some j, [], .no⟩
def h0 : Hint := ⟨none, none, [], .yes⟩
def hf (y : Value) : Hint := ⟨none, none, [], .fact y⟩
def hw (o' : AO) : Hint := ⟨none, none, [], .wr o'⟩
def hn : Hint := ⟨none, none, [], .force⟩
def ht (s : Δ) : Hint := ⟨none, none, [], .txt s⟩
def envW (con : KA') (hints : AO') (lc : LcL) (W : World) (F : HP) : Env := envO Try.prog F (conL con) hints (K4' lc) W
def wRun (con : KA') (hints : AO') (lc : LcL) (W : World) (f : FuncId) (A : List AV) (H : LH) (ks : List Nat) (F : HP) : VT AV := ((GP' Try.prog (envW con hints lc W F) 1000 f A).run2 (AD' H) 1100 []).view ks
def BI' (con : KA') (hints : AO') (lc : LcL) (W : World) (g : FuncId) (b : Code) (A : List AV) (H : LH) (ks idx : List Nat) (F : HP) : VT (AX × List AV × Nat) := (((CF' Try.prog (envW con hints lc W F) 1000 g b A).run2 (AD' H) 1100 []).view ks).map (XW' idx)
def JX' (r : Nat) : Code -> Option Code
 | .loop b => match CD' b with
  | some i => match Nat.beq i r with
   | true => some b
   | false => JX' r b
  | none => JX' r b
 | .seq a b => match JX' r a with | some c => some c | none => JX' r b
 | .cond _ a b => match JX' r a with | some c => some c | none => JX' r b
 | .block _ b | .scope b => JX' r b
 | _ => none
def AB' (f : FuncId) (r : Nat) : Code := ((Try.prog.funcs[f]?).bind fun fn => fn.body.bind (JX' r)).getD .skip
theorem M2' : Try.prog.follows .mixedOrders = true := by kernel_rfl
theorem B8' : AP' default F := AP'.nothing F
theorem AK' {con : KA'} {hints : AO'} {lc : LcL} {H' : LH} {v : AV} (ks : List Nat) (hH : A6' 1100 H = true)
  (hcon : ∀ F, AP' W F -> ∀ x ∈ con, C1OK Try.prog F x.1 x.2) (hl : ∀ F, AP' W F -> ∀ x ∈ lc, L1OK Try.prog F x.2.2.1 x.2.2.2) (h : ∀ F, VAll (fun u os _ => Fits ks [u] os [v] H') (wRun con hints lc W f A H ks F)) : Tri Try.prog W f A H v H' :=
 tri_V ks 1000 M2' hH (fun F hF => GA' rfl (hcon F hF)) (fun F hF => DL' rfl (hl F hF)) fun F _ => h F
theorem G5' {g : FuncId} {b : Code} {σ : Type} (m : Nat) (A : σ -> List (Nat × AV)) (H : σ -> LH) (ax : AX) (Z : List (Nat × AV)) (HZ : LH) (μ : σ -> Nat) (ks idx : List Nat) (hax : ax ≠ .normal) (hH : ∀ s, A6' 1100 (H s) = true) (hZ : A6' 1100 HZ = true)
  (hstep : ∀ s, ∃ (con : KA') (hints : AO') (lc : LcL), (∀ F, AP' W F -> ∀ x ∈ con, C1OK Try.prog F x.1 x.2) /\ (∀ F, AP' W F -> ∀ x ∈ lc, L1OK Try.prog F x.2.2.1 x.2.2.2) /\
   ∀ F, VAll (fun r os _ => r.2.2 = m /\ ((r.1 = .normal /\ ∃ s', μ s' < μ s /\ ∃ l, FitT ks idx r.2.1 os (A s') (H s') l) \/ (r.1 = ax /\ ∃ l, FitT ks idx r.2.1 os Z HZ l))) (BI' con hints lc W g b (tms 0 m (A s)) (H s) ks idx F)) (s : σ) :
  LTri Try.prog W b (tms 0 m (A s)) (H s) ax (tms 0 m Z) HZ := by
 have key := ltri_V (P := Try.prog) (W := W) (b := b) (g := g) (σ := σ) (con := fun s => conL (hstep s).choose) (claim := fun s => (hstep s).choose_spec.choose) (lcon := fun s => K4' (hstep s).choose_spec.choose_spec.choose) m A H ax Z HZ μ ks idx 1000 M2' hax hH hZ
  (fun s F hF => GA' rfl ((hstep s).choose_spec.choose_spec.choose_spec.1 F hF)) (fun s F hF => DL' rfl ((hstep s).choose_spec.choose_spec.choose_spec.2.1 F hF))
 exact key (fun s F _ => (hstep s).choose_spec.choose_spec.choose_spec.2.2 F) s
theorem BR' {i n : Nat} (h : i < n) : n - (i + 1) < n - i := ω
theorem BM' (k : Nat) (h : k < 9223372036854775807) : IntKind.i64.wrap (o' k + o' 1) = o' (k + 1) := by
 rw [IntWalk.i64_in _ (by simp only [Int.ofNat_eq_natCast]; omega)]; simp only [Int.ofNat_eq_natCast]; omega
theorem AV' (b : Bool) : Wk (.v (.bool b)) (.lit b) := fun N y hy => GM'.2 (VR_v.1 hy)
theorem AC' {b b' : Bool} (h : b = b') : Wk (.v (.bool b)) (.lit b') := by subst h; exact AV' b
theorem AY' {a b : Int} (h : a = b) : Wk (.v (.int .i64 a)) (.v (.int .i64 b)) := Wk.of_eq (by rw [h])
theorem noC : ∀ x ∈ ([] : KA'), C1OK Try.prog F x.1 x.2 := fun x hx => by cases hx
theorem noL : ∀ x ∈ ([] : LcL), L1OK Try.prog F x.2.2.1 x.2.2.2 := fun x hx => by cases hx
theorem CR' {g : List AV -> Option (AP AV)} (h : C1OK Try.prog F f g) : ∀ x ∈ ([(f, g)] : KA'), C1OK Try.prog F x.1 x.2 := fun x hx => by simp only [List.mem_singleton] at hx; subst hx; exact h
theorem CP' {g : List AV -> Option (AP AV)} {l : KA'} (h : C1OK Try.prog F f g) (hl : ∀ x ∈ l, C1OK Try.prog F x.1 x.2) : ∀ x ∈ (f, g) :: l, C1OK Try.prog F x.1 x.2 := fun x hx => by
 rcases List.mem_cons.1 hx with rfl | hx
 ·exact h
 ·exact hl x hx
theorem L3' {r : Nat} {b : Code} {g : List AV -> AP (AX × List AV)} (h : L1OK Try.prog F b g) : ∀ x ∈ ([(f, r, b, g)] : LcL), L1OK Try.prog F x.2.2.1 x.2.2.2 := fun x hx => by simp only [List.mem_singleton] at hx; subst hx; exact h
theorem Tri.wk {H' : LH} {v v' : AV} (h : Tri Try.prog W f A H v H') (hw : Wk v v') : Tri Try.prog W f A H v' H' := by
 intro W0 F N w vargs hF hNB r ha; refine (h W0 F N w vargs hF hNB r ha).mono ?_; rintro e w' ⟨y, rfl, N', h1, h2, h3, h4⟩; exact ⟨y, rfl, N', h1, h2, h3, A9'.2 ⟨hw _ _ (A9'.1 h4).1, AT'⟩⟩
theorem OG' {x : Value} (h : ∀ (W0 : World) (F : HP) (N : A4') (w : World) (vargs : Array Value), AP' W F -> NB N H -> Rep W0 N F (AD' H) w -> VRs N A vargs.toList -> Calls Try.prog f vargs w fun e w' => e = .returned x /\ Below w.heap.size w w') : Tri Try.prog W f A H (.v x) H := by
 intro W0 F N w vargs hF hNB r ha; refine (h W0 F N w vargs hF hNB r ha).mono ?_; rintro e w' ⟨rfl, hb⟩
 exact ⟨x, rfl, N, fun _ _ => rfl, hNB, r.below hb, A9'.2 ⟨VR_v.2 rfl, AT'⟩⟩
theorem T1' {x : Value} (h : ∀ w, Calls Try.prog f args.toArray w fun e w' => e = .returned x /\ Below w.heap.size w w') : Tri Try.prog W f (vmap args) [] (.v x) [] :=
 OG' fun W0 F N w vargs hF hNB r ha => by
  have : vargs = args.toArray := by
   have := ha.of_vmap; rw [<- this]
  subst this; exact h w
theorem SF' (W : World) : AP' W (HP.old W) := by
 intro D w' hF b o hv; have hF' : (HP.old W).on D w' := hF; rw [hF'.2 _ (Array.getElem?_eq_some_iff.1 hv).1]; exact hv
theorem VW' (h : Tri Try.prog W f (vmap args) [] (.v (.bool true)) []) : Calls Try.prog f args.toArray W fun e w' => e = .returned (.bool true) /\ Below W.heap.size W w' := by
 refine (h W (HP.old W) (fun _ => none) W args.toArray (SF' W) (fun _ _ _ => rfl) (NE' W) (VRs.vmap args)).mono ?_; rintro e w' ⟨y, rfl, N', _, _, r, hv⟩; have hy : y = .bool true := VR_v.1 (A9'.1 hv).1; subst hy; exact ⟨rfl, r.old_below⟩
section
variable {α : Type} {enc : α -> List Value} {k : Nat}
end
abbrev a' : AV := AV.any
abbrev u' : AV := AV.undef
abbrev ut' : AV := AV.v (Value.tuple (Array.mk []))
abbrev i' (n : Nat) : AV := AV.v (Value.int IntKind.i64 (o' n))
abbrev z' (n : Int) : AV := AV.v (Value.int IntKind.i64 n)
abbrev s' (s : Δ) : AV := AV.v (Value.string s)
abbrev b' (b : Bool) : AV := AV.v (Value.bool b)
abbrev p' (q : Prop) : Cnd := Cnd.p q
abbrev t' : Cnd := Cnd.t
abbrev e' : AV := AV.v (Value.slice none 0 0)
abbrev g' : AV := AV.lit false
abbrev j' : AV := AV.lit true
abbrev f' (q : Prop) : Cnd := (Cnd.p q).a Cnd.t
abbrev ra4 (l : List AV) : List AV := a'::a'::a'::a'::l
abbrev ra8 (l : List AV) : List AV := a'::a'::a'::a'::a'::a'::a'::a'::l
abbrev ra16 (l : List AV) : List AV := a'::a'::a'::a'::a'::a'::a'::a'::a'::a'::a'::a'::a'::a'::a'::a'::l
abbrev ru4 (l : List AV) : List AV := u'::u'::u'::u'::l
abbrev ru8 (l : List AV) : List AV := u'::u'::u'::u'::u'::u'::u'::u'::l
abbrev ru16 (l : List AV) : List AV := u'::u'::u'::u'::u'::u'::u'::u'::u'::u'::u'::u'::u'::u'::u'::u'::l
theorem _root_.Go.Proofs.Ytjjjchmkonnpfaa.Ya {a : AV} : Wk a a := Wk.refl a
theorem _root_.Go.Proofs.Ytjjjchmkonnpfaa.Yb {a : List AV} : VW a a := VW.refl a
theorem _root_.Go.Proofs.Ytjjjchmkonnpfaa.Yc {a : AO} : OW a a := OW.refl a
theorem _root_.Go.Proofs.Ytjjjchmkonnpfaa.Yd {a : Nat} : a <= a := Nat.le_refl a
theorem _root_.Go.Proofs.Ytjjjchmkonnpfaa.Ye : True := trivial
theorem Z0 {n : Nat} : o' n = (n : Int) := rfl
theorem Z1 {α : Type _} [LT α] {a b : α} : a > b ↔ b < a := Iff.rfl
theorem Z2 {α : Type _} [LE α] {a b : α} : a >= b ↔ b <= a := Iff.rfl
instance : Std.Refl Wk := ⟨Wk.refl⟩
instance : Std.Refl VW := ⟨VW.refl⟩
instance : Std.Refl OW := ⟨OW.refl⟩
instance {α : Sort _} : Std.Refl (@Eq α) := ⟨fun _ => rfl⟩
theorem _root_.Go.Proofs.Ytjjjchmkonnpfaa.Yf {α : Sort _} {r : α -> α -> Prop} [h : Std.Refl r] {a : α} : r a a := h.refl a
theorem _root_.Go.Proofs.Ytjjjchmkonnpfaa.Yg {x : AV} (h : VW l m) : VW (x :: l) (x :: m) := VW.cons (Wk.refl _) h
theorem _root_.Go.Proofs.Ytjjjchmkonnpfaa.Yh {x : AV} (h : VW l m) : VW (x :: l) (.any :: m) := VW.cons (Wk.any _) h
theorem _root_.Go.Proofs.Ytjjjchmkonnpfaa.Yi {i a b s : Nat} {c : Cp} (h : VW l m) : VW (.slice i a b s c :: l) (.slice i a b s (.lo c.least) :: m) := VW.cons (wk_cap (Nat.le_refl _)) h
theorem _root_.Go.Proofs.Ytjjjchmkonnpfaa.Yj {α : Type} {Q : α -> List (Option AO) -> Nat -> Prop} {a b : VT α} (h : a = b) (x : VAll Q b) : VAll Q a := cast (congrArg (VAll Q) h.symm) x
theorem Kb0' (h : p := by first | (with_reducible exact Ye) | (with_reducible exact rfl) | (with_reducible exact Ya) | (with_reducible exact Yb) | (with_reducible exact Yc) | (with_reducible exact AV' _) | (with_reducible assumption) | exact AS' hu3 _ _ _ | exact B4' _ _ | (with_reducible exact AY' hw) | exact AC' e1 | (rw [Nat.zero_add, Nat.mul_one]; exact h1) | exact rfl | exact Ya | exact Yb | exact Yc) : p := h
theorem Kb1' (h : p := by first | (with_reducible first | exact Ye | exact Yf | exact AV' _ | assumption) | exact Yf | ((repeat (first | exact VW.nil | refine Yg ?_ | refine Yh ?_ | refine Yi ?_)); done)) : p := h
theorem Kb2' (h : p := by first | (with_reducible first | exact Ye | exact rfl | exact Ya | exact Yb | exact Yc | exact AV' _ | assumption) | exact rfl | exact Ya | exact Yb | exact Yc | (refine OW.of_eq ?_; simp only [BJ', BH', BG', BN']; done) | ((repeat (first | exact VW.nil | refine VW.cons Ya ?_ | refine VW.cons (Wk.any _) ?_)); done)) : p := h
theorem Kb3' (h : p := by first | (with_reducible exact Ye) | (with_reducible exact rfl) | (with_reducible exact Ya) | (with_reducible exact Yb) | (with_reducible exact Yc) | (with_reducible exact AV' _) | (with_reducible assumption) | exact AS' hu3 _ _ _ | exact B4' _ _ | exact rfl | exact Ya | exact Yb | exact Yc) : p := h
theorem Kb4' (h : p := by first | (with_reducible exact Ye) | (with_reducible exact rfl) | (with_reducible exact Yb) | (with_reducible exact Yc) | exact rfl | exact Yb | exact Yc | ((repeat (first | exact VW.nil | refine VW.cons Ya ?_ | refine VW.cons (Wk.any _) ?_)); done)) : p := h
theorem Kb5' (h : p := by first | (with_reducible exact Ye) | (with_reducible exact rfl) | (with_reducible exact Ya) | (with_reducible exact Yb) | (with_reducible exact Yc) | (with_reducible exact AV' _) | (with_reducible assumption) | exact rfl | exact Ya | exact Yb) : p := h
theorem Kb6' (h : p := by first | (with_reducible exact Ye) | (with_reducible exact rfl) | (with_reducible exact Ya) | (with_reducible exact Yb) | (with_reducible exact Yc) | (with_reducible exact AV' _) | (with_reducible assumption) | (with_reducible exact AY' hw) | exact AC' e1 | exact AC' rfl | exact rfl | exact Ya | exact Yb | exact Yc) : p := h
theorem Kb7' (h : p := by first | exact Ye | exact AY' hw1 | exact AY' hw2 | exact Yb | exact Yc | exact hM | omega | (simp only [Z0]; omega)) : p := h
theorem Kb8' (h : p := by first | (with_reducible first | exact Ye | exact rfl | exact Ya | exact Yb | exact Yc | exact AV' _ | assumption) | exact rfl | exact Ya | exact Yb | exact Yc) : p := h
theorem Kb9' (h : p := by first | (with_reducible exact Ye) | (with_reducible exact rfl) | (with_reducible exact Yb) | (with_reducible exact Yc) | exact rfl | exact Yb | exact Yc) : p := h
theorem Kb10' (h : p := by first | exact rfl | exact Ya | exact Yb | exact Yc | ((repeat (first | exact VW.nil | refine VW.cons (Wk.any _) ?_ | refine VW.cons Ya ?_)); done)) : p := h
theorem Kb11' (h : p := by first | exact RO.ret _ | exact RO.fail _) : p := h
theorem Kb12' (h : p := by first | (with_reducible exact Ye) | (with_reducible exact rfl) | exact Yb | exact rfl | ((repeat (first | exact VW.nil | refine VW.cons Ya ?_ | refine VW.cons (Wk.any _) ?_)); done)) : p := h
theorem Kb13' (h : p := by first | (with_reducible exact AY' hw) | exact AC' e1 | exact S4' _ _ | exact X7' rfl rfl rfl rfl rfl rfl | exact Kb5') : p := h
theorem Kb14' (h : p := by first | (with_reducible exact AY' hw) | exact AC' e1 | exact S5' _ _ | exact SU' rfl rfl rfl rfl rfl | exact Kb5') : p := h
theorem Cb0' (h : p := by simp only [Cnd.holds, Nat.blt_eq, true_and, and_true]; and_intros; all_goals first | exact AC' (bne_self_eq_false _) | exact Kb1') : p := h
theorem Cb1' (h : p := by simp only [Cnd.holds, Nat.blt_eq, true_and, and_true]; and_intros; all_goals exact Kb12') : p := h
theorem Cb2' (h : p := by simp only [Cnd.holds, Nat.blt_eq, true_and, and_true]; and_intros; all_goals exact Kb4') : p := h
theorem Cb3' (h : p := by simp only [Cnd.holds, Nat.blt_eq, true_and, and_true]; and_intros; all_goals exact Kb9') : p := h
theorem Cb4' (h : p := by simp only [Cnd.holds]; and_intros; all_goals exact Kb7') : p := h
theorem Cb5' (h : p := by simp only [Cnd.holds, Nat.blt_eq, true_and, and_true]; and_intros; all_goals first | exact AC' (beq_self_eq_true _) | exact Kb1') : p := h
theorem Cb6' (h : p := by simp only [Cnd.holds, Nat.blt_eq, true_and, and_true]; and_intros; all_goals exact Kb8') : p := h
theorem Cb7' (h : p := by simp only [Cnd.holds, Nat.blt_eq, true_and, and_true, List.headD_cons]; and_intros; all_goals exact Kb3') : p := h
theorem Cb8' (h : p := by simp only [Cnd.holds, Nat.blt_eq, true_and, and_true, e1, h1, h2, hcs, N4']; and_intros; all_goals exact Kb0') : p := h
theorem Cb9' (h : p := by simp only [Cnd.holds, Nat.blt_eq, true_and, and_true, e1, h1, h2, hcs, N4', k1, k2, k3, k4]; and_intros; all_goals exact Kb0') : p := h
theorem Cb10' (h : p := by simp only [Cnd.holds, Nat.blt_eq, true_and, and_true]; and_intros; all_goals exact Kb2') : p := h
theorem Cb11' (h : p := by simp only [Cnd.holds, Nat.blt_eq, true_and, and_true, e1, h1, h2, hcs]; and_intros; all_goals exact Kb0') : p := h
theorem Cb12' (h : p := by simp only [Cnd.holds, Nat.blt_eq, true_and, and_true, e1, h1, h2, hcs, k1, k2, k3, k4]; and_intros; all_goals exact Kb0') : p := h
abbrev hf' (f : FuncId) (r o : Nat) := (f, r, o, hv (.lit false))
abbrev ht' (f : FuncId) (r o : Nat) := (f, r, o, hv (.lit true))
abbrev tt' : Cnd := Cnd.p (true = true)
abbrev wb' (b : Bool) (y : AV) : Cnd := (Cnd.p (Wk (AV.v (Value.bool b)) y)).a Cnd.t
end Go.Proofs.Ytjjjchmkonnpfaa.Kit
namespace Go.Proofs.Ytjjjchmkonnpfaa
open Go Eng Kit
abbrev Ω : AO := AO.any (HP.pure True)
abbrev ow' (x : AO) : Cnd := Cnd.p (OW x x)
abbrev vw' (x : List AV) : Cnd := Cnd.p (VW x x)
abbrev fe' {α : Type} (x : α) : Cnd := (Cnd.p (x = x)).a Cnd.t
abbrev ee' {α : Type} (x : α) : Cnd := (Cnd.p (true = true)).a ((Cnd.p (x = x)).a Cnd.t)
abbrev nb' (x : UInt8) (n : Nat) : Cnd := (Cnd.p (Wk (AV.v (Value.bool (↑x.toNat == Int.ofNat n))) (AV.lit false))).a Cnd.t
abbrev nt' (x : UInt8) (n : Nat) : Cnd := (Cnd.p (Wk (AV.v (Value.bool (↑x.toNat == Int.ofNat n))) (AV.lit true))).a Cnd.t
end Go.Proofs.Ytjjjchmkonnpfaa
namespace Go.Proofs.Ytjjjchmkonnpfaa
open Go Eng Kit
theorem χ {p : Prop} (h : p := by kernel_rfl) : p := h
end Go.Proofs.Ytjjjchmkonnpfaa
